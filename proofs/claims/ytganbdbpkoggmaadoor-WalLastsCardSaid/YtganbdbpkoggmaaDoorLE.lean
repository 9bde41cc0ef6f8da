/- An abstract reading of Go code: part LE of the library. No condition. -/
import Derived.Test.YtganbdbpkoggmaaDoorLD
set_option linter.unusedVariables false
set_option linter.unusedSimpArgs false
namespace Go.AI
variable {tabI : Inhabited TabsD}
section
variable {P : Program} {C : FuncId->Con} {B : Id->Prop}
theorem enter_wp {w : World} {a : Act} {o : Oper} {f : FuncId} {args : Array Value} {Pst : Value->World->Prop} (hr : (execOp a.eval o).run P w = .ok (.enter f args) w) (h : Calls P f args w fun e w' => ∃ v, e = .returned v/\Pst v w') (Q : Exit->Act->World->Prop) :
  o.wp P a w (fun a' w' => ∃ v, a' = a.put o.dst v/\Pst v w') Q := by
 unfold Oper.wp;rw [hr, Oper.upon_enter];refine h.mono ?_
 rintro e w' ⟨v, rfl, h1⟩;exact ⟨v, rfl, h1⟩
theorem call_run {J : Id->JI} {F : Nat->Prop} {w : World} {a : Act} {o : Oper} {p : ROp} {ρ : Opd->AV} (hr : qz7 J F w ρ a) (hc : zf4 P o = some p) {f : FuncId} {ys : List AV} (he : qv6 P f)
  (hp : (∃ l, p = .call f l/\ys = l.map ρ)\/∃ x l, p = .callv x l/\((∃ caps, ρ x = .val (.fn f caps)/\ys = l.map ρ ++ caps.map .val)\/∃ caps, ρ x = .clo f caps/\ys = l.map ρ ++ caps)) :
  ∃ vs : List Value, (execOp a.eval o).run P w = .ok (.enter f vs.toArray) w/\(vs.length = ys.length/\∀ (j : Nat) y v, ys[j]? = some y->vs[j]? = some v->VRel J F w y v) := by
 unfold zf4 at hc;split at hc
 ·split at hc
  ·cases hc; rcases hp with ⟨_, h, _⟩ | ⟨_, _, h, _⟩ <;> cases h
  ·cases hc
 ·split at hc
  ·split at hc
   ·cases hc; rcases hp with ⟨_, h, _⟩ | ⟨_, _, h, _⟩ <;> cases h
   ·cases hc
  ·split at hc
   ·cases hc; rcases hp with ⟨_, h, _⟩ | ⟨_, _, h, _⟩ <;> cases h
   ·cases hc
  ·cases hc
 ·split at hc
  ·split at hc
   ·split at hc
    ·cases hc; rcases hp with ⟨_, h, _⟩ | ⟨_, _, h, _⟩ <;> cases h
    ·cases hc
   ·cases hc
  ·cases hc
 ·rename_i c ho
  split at hc
  ·rename_i g l hcal hargs
   cases hc;rcases hp with ⟨_, h, rfl⟩ | ⟨_, _, h, _⟩
   ·cases h
    refine ⟨(c.args.map a.eval).toList, ?_, qjE hr hargs⟩;rw [Array.toArray_toList];unfold execOp resolve;simp only [ho, hcal, Act.eval, Deferred.ofValue, Sem.run_bind, Sem.run_pure, Result.andThen_ok, invoke];have := qo7 (w := w) he (c.args.map a.eval);simpa using this
   ·cases h
  ·rename_i t l hcal hargs
   cases hc;rcases hp with ⟨_, h, _⟩ | ⟨x, l', h, hq⟩
   ·cases h
   ·cases h
    have hv := hr.ev (x := .tmp t) (y := .t t) rfl
    have go : ∀ (vs : List Value), a.eval (.tmp t) = .func (.func f) #[] vs.toArray->∀ avs, (vs.length = avs.length/\∀ (j : Nat) y v, avs[j]? = some y->vs[j]? = some v->VRel J F w y v)->ys = l.map ρ ++ avs →
      ∃ vs : List Value, (execOp a.eval o).run P w = .ok (.enter f vs.toArray) w/\(vs.length = ys.length/\∀ (j : Nat) y v, ys[j]? = some y->vs[j]? = some v->VRel J F w y v) := by
     rintro vs hev avs hav rfl;refine ⟨(c.args.map a.eval).toList ++ vs, ?_, qoC (qjE hr hargs) hav⟩;have e : ((c.args.map a.eval).toList ++ vs).toArray = c.args.map a.eval ++ vs.toArray := by apply Array.ext'; simp
     rw [e];unfold execOp resolve;simp only [ho, hcal, hev, Deferred.ofValue, Sem.run_bind, Sem.run_pure, Result.andThen_ok, invoke];have := qo7 (w := w) he (c.args.map a.eval ++ vs.toArray);simpa using this
    generalize hev : a.eval (.tmp t) = fv at hv;rcases hq with ⟨caps, hf, hy⟩ | ⟨caps, hf, hy⟩
    ·rw [hf] at hv
     cases hv.inv_val with
     | fn _ _ vs hl hrep =>
     exact go vs hev (caps.map .val) ⟨by simp [hl], fun j y v q1 q2 => by
      simp only [List.getElem?_map, Option.map_eq_some_iff] at q1;obtain ⟨d, q1, rfl⟩ := q1;exact .val _ _ (hrep j d v q1 q2)⟩ hy
    ·rw [hf] at hv
     cases hv with
     | clo _ _ vs hl hrep => exact go vs hev caps ⟨hl, hrep⟩ hy
  ·cases hc
 ·cases hc
theorem RP_inl {dst : Option Nat} {n : Nat} {op : ROp} {g : Option (Nat × Bool)} {l : List AIns} {e : List (Nat × AV)} {H : Hp} {K : St->Prop} {f : FuncId} {af : AFn} {ys : List AV} (hg : gv ⟨n, e⟩ g = some true) (hf : qtD P f = some af)
  (hp : (∃ l, op = .call f l/\ys = l.map fun x => unw true (evE ⟨n, e⟩ x))\/∃ x l, op = .callv x l/\((∃ caps, unw true (evE ⟨n, e⟩ x) = .val (.fn f caps)/\ys = (l.map fun x => unw true (evE ⟨n, e⟩ x)) ++ caps.map .val)\/∃ caps, unw true (evE ⟨n, e⟩ x) = .clo f caps/\ys = (l.map fun x => unw true (evE ⟨n, e⟩ x)) ++ caps))
  (h : ∀ B', WP P C B' af.code (retQ fun s' => ∃ y, outA s' af.res = some y/\RP P C B l K ⟨qw9 ⟨n, e⟩ dst y, s'.H⟩) ⟨zg2 ys af.ntmps, H⟩) : RP P C B (⟨dst, .r op, g⟩ :: l) K ⟨⟨n, e⟩, H⟩ := by
 intro hC opsA l0 hl J0 F0 w0 d0 a w Q hS hQ;obtain ⟨o, l', rfl, hi, hm⟩ := qy2 hl;obtain ⟨J, F, hE, hH, hX, hd0⟩ := hS;obtain ⟨hop, hdst, _⟩ := qgT hi;unfold wpList;have hw := qoE hE hi hg;rw [if_pos hw]
 have hcr : zf4 P o = some op := by
  unfold qsQ at hop;split at hop <;> first | (cases hop; done) | (simp only [Option.some.injEq, AOp.r.injEq] at hop; subst hop; assumption) | (simp at hop)
 obtain ⟨_, _, _, _, _, _, _, hent⟩ := qlI hf;obtain ⟨vs, hrun, hvs⟩ := call_run (orel hE) hcr hent hp;refine .inl (Oper.wp_mono ?_ (enter_wp (Pst := fun v w' => ∃ y H' J' F', VRel J' F' w' y v/\HRel J' F' w' H'/\Ext J F w J' F' w'/\RP P C B l K ⟨qw9 ⟨n, e⟩ dst y, H'⟩) hrun ?_ Q))
 ·rintro a' w' ⟨v, rfl, y, H', J', F', k1, k2, k3, k4⟩
  refine k4 hC opsA l' hm J0 F0 w0 d0 _ w' Q ⟨J', F', ?_, k2, hX.trans k3.to0, ?_⟩ hQ
  ·have := qkT (hE.ext hH k3) k1 dst
   rw [← hdst];exact this
  ·rw [← hdst]; cases dst <;> exact hd0
 ·refine qtL (B := fun id => H id ≠ none\/B id) hC hf hH hvs (h _) ?_
  rintro s' a' w' J' F' hE' hH' hX' ⟨y, hy, hk⟩;refine ⟨y, hy, fun v hv => ⟨v, rfl, y, s'.H, J', F', hv, hH', ?_, hk⟩⟩
  ·exact ⟨fun id => by
    by_cases hid : H id = none
    ·rw [hH.none id hid]; exact trivial
    ·exact hX'.le id (.inl hid), hX'.fle, hX'.fnew, hX'.onew, hX'.heap, hX'.size, hX'.os, hX'.tape, hX'.output⟩
end
structure S9 (σ : Nat->Option Id) (E : qd9) (H : HpT) (c : Nat) (s : St) (R : List (TV × AV)) : Prop where
 sh : SH σ H c s.H
 env : ∀ t, VRm σ H (qa5 E t) (look s.env.l t)
 rel : ∀ p ∈ R, VRm σ H p.1 p.2
def zs5 [Inhabited TabsD] (P : Program) (C : FuncId->Con) (inl : Inl) : Prop := ∀ ρ f Hs args h c K r, inl ρ f Hs args h c K = some r->∃ af, qtD P f = some af/\∀ σ A ys (R : List (TV × AV)), SH σ (h ++ Hs) c A->VRs σ (h ++ Hs) args ys->(∀ p ∈ R, VRm σ (h ++ Hs) p.1 p.2)->∀ Post : AV->Hp->Prop,
 (∀ x h' c' σ' y A', SH σ' (h' ++ Hs) c' A'->VR σ' (h' ++ Hs) x y->(∀ p ∈ R, VRm σ' (h' ++ Hs) p.1 p.2)->K x h' c' = some r->Post y A')->∀ B, WP P C B af.code (retQ fun s' => ∃ y, outA s' af.res = some y/\Post y s'.H) ⟨zg2 ys af.ntmps, A⟩
theorem qg5 (e Es : qd9) (t : Nat) : qa5 (e ++ Es) t = if t ∈ qe9 e then qa5 e t else qa5 Es t := by
 induction e with
 | nil => simp [qe9]
 | cons p e ih =>
  obtain ⟨k, x⟩ := p;simp only [List.cons_append, qa5, qe9, List.mem_cons, ih];cases hk : Nat.beq k t with
  | true => have := qb2 hk; subst this; simp
  | false =>
   have : ¬ t = k := fun e => by subst e; rw [Nat.beq_refl] at hk; cases hk
   simp [this]
theorem qb7 (k : Nat) (x : TV) (e : qd9) (t : Nat) : qa5 ((k, x) :: e) t = if t = k then x else qa5 e t := by
 simp only [qa5];cases hk : Nat.beq k t with
 | true => have := qb2 hk; subst this; simp
 | false =>
  have : ¬ t = k := fun e => by subst e; rw [Nat.beq_refl] at hk; cases hk
  simp [this]
theorem VRm.unw {σ : Nat->Option Id} {H : HpT} {x : TV} {y : AV} (h : VRm σ H x y) : VR σ H x (unw true y)\/x = .undef := by
 rcases h with h | ⟨z, rfl, h, _⟩
 ·cases y with
  | may c z =>
   cases h with
   | undefM => exact .inr rfl
   | junk => exact .inl (.junk _)
  | _ => exact .inl h
 ·exact .inl (by simpa [Go.AI.unw] using h)
theorem VRm.noLit {σ : Nat->Option Id} {H : HpT} {x : TV} {y : AV} (h : VRm σ H x y) : VR σ H (noLit x) (Go.AI.unw true y) := by
 rcases h.unw with h | h
 ·exact h.noLit
 ·subst h; exact .junk _
section
variable {σ : Nat->Option Id} {H : HpT} {E : qd9} {c : Nat} {s : St} {R : List (TV × AV)}
theorem S9.ev (h : S9 σ E H c s R) (x : Opd) : VR σ H (evT E x) (unw true (evE s.env x)) := by
 cases x with
 | t n => exact (h.env n).noLit
 | c d => exact zr6 d
theorem S9.raw (h : S9 σ E H c s R) (x : Opd) : VR σ H (qnK E x) (unw true (evE s.env x))\/qnK E x = .undef := by
 cases x with
 | t n => exact (h.env n).unw
 | c d => exact .inl (zr6 d)
theorem gv_lit {j : Nat} {b want : Bool} (h : S9 σ E H c s R) (hj : qa5 E j = .lit b) : gv s.env (some (j, want)) = some (bEq b want) := by
 have := h.env j;rw [hj] at this;have e : (b == want) = bEq b want := by cases b <;> cases want <;> rfl
 rcases this with h | ⟨z, hz, h, _⟩
 ·generalize hq : look s.env.l j = y at h
  cases h;simp only [gv, hq, e]
 ·cases h
  simp only [gv, hz, Bool.true_and, e]
theorem za8 {j : Nat} {want : Bool} (h : S9 σ E H c s R) (hj : qa5 E j = .undef) : gv s.env (some (j, want)) = some false := by
 have := h.env j;rw [hj] at this;rcases this with h | ⟨z, hz, h, hu⟩
 ·generalize hq : look s.env.l j = y at h
  cases h with
  | undef => simp only [gv, hq]
  | undefM x =>
   simp only [gv, hq];cases x <;> try rfl
   rename_i d;cases d <;> rfl
 ·exact absurd rfl hu
end
section
variable {P : Program} {C : FuncId->Con} {B : Id->Prop}
theorem RP_do (id : Id) {dst : Option Nat} {op : AOp} {g : Option (Nat × Bool)} {l : List AIns} {env : Env} {H H' : Hp} {x : AV} {K : St->Prop} (hg : gv env g = some true) (hd : ∀ d, dst = some d->d < env.n)
  (h1 : qe7 C H (fun x => unw true (evE env x)) (fun t x => unw t (evE env x)) [] id op = some (x, H')) (h : RP P C B l K ⟨qw9 env dst x, H'⟩) : RP P C B (⟨dst, op, g⟩ :: l) K ⟨env, H⟩ := by
 cases dst with
 | none => exact RP_op0 [] id hg h1 h
 | some d =>
  have := hd d rfl;simp only [qw9] at h;rw [if_pos this] at h;exact RP_op [] id hg this h1 h
theorem RP_no {dst : Option Nat} {op : AOp} {g : Option (Nat × Bool)} {l : List AIns} {env : Env} {H : Hp} {K : St->Prop} (hg : gv env g = some false) (hd : ∀ d, dst = some d->d < env.n) (h : RP P C B l K ⟨qw9 env dst (.val (.tup [])), H⟩) : RP P C B (⟨dst, op, g⟩ :: l) K ⟨env, H⟩ := by
 cases dst with
 | none => exact RP_skip0 hg h
 | some d =>
  have := hd d rfl;simp only [qw9] at h;rw [if_pos this] at h;exact RP_skip hg this h
theorem qdQ (env : Env) (dst : Option Nat) (x : AV) : (qw9 env dst x).n = env.n := by
 unfold qw9;split
 ·split <;> rfl
 ·rfl
theorem S9.put {σ σ' : Nat->Option Id} {e Es : qd9} {H H' : HpT} {c c' : Nat} {s : St} {A : Hp} {R : List (TV × AV)} (h : S9 σ (e ++ Es) H c s R) (g : Gos σ H σ' H') (hS : SH σ' H' c' A) {dst : Option Nat} (hd : ∀ d, dst = some d->d < s.env.n) {x : TV} {y : AV} (hv : VRm σ' H' x y) :
  S9 σ' (qsC dst x e ++ Es) H' c' ⟨qw9 s.env dst y, A⟩ R := by
 refine ⟨hS, fun t => ?_, fun p hp => (h.rel p hp).mono g⟩;cases dst with
 | none => exact (h.env t).mono g
 | some d =>
  have := hd d rfl;simp only [qsC, qw9, List.cons_append, qb7];rw [if_pos this];simp only [look];by_cases e : d = t
  ·subst e; simpa using hv
  ·rw [if_neg e, if_neg (Ne.symm e)]
   exact (h.env t).mono g
theorem qxC {ρ : Type} {x : TV} {K : TV->Option ρ} {r : ρ} {σ : Nat->Option Id} {H : HpT} {y : AV} (h : fU x K = some r) (hv : VR σ H x y) : ∃ t, t ≠ .undef/\VR σ H t y/\K t = some r := by
 by_cases hx : x = .undef
 ·subst hx; exact ⟨.junk, by simp, .junk _, h⟩
 ·refine ⟨x, hx, hv, ?_⟩
  cases x <;> first | exact h | exact absurd rfl hx
theorem zs6 {X : Cx} {inl : Inl} {dr : Bool} {σ : Nat->Option Id} {e Es : qd9} {h Hs : HpT} {c : Nat} {s : St} {R : List (TV × AV)} (hC : qsD dr X C) (hS : S9 σ (e ++ Es) (h ++ Hs) c s R) {id ns : Id} (hid : s.H id = none) (hs : ∀ i b, qa0 (h ++ Hs) i = some b->σ i ≠ some id) {ρ : Type}
  {ty : Option Sh} {op : AOp} {K : TV->HpT->Nat->Option ρ} {r : ρ} (hK : opK X inl dr Hs (evT (e ++ Es)) (qnK (e ++ Es)) ty op h c K = some r) :
  qlR dr (qe7 C s.H (fun x => unw true (evE s.env x)) (fun b x => unw b (evE s.env x)) ns id op) id σ Hs h s.H K r ∨
  (dr = false/\∃ o f args ys, op = .r o/\inl ρ f Hs args h c K = some r/\VRs σ (h ++ Hs) args ys/\((∃ l, o = .call f l/\ys = l.map fun x => unw true (evE s.env x))\/∃ x l, o = .callv x l/\((∃ caps, unw true (evE s.env x) = .val (.fn f caps)/\ys = (l.map fun x => unw true (evE s.env x)) ++ caps.map .val)\/∃ caps, unw true (evE s.env x) = .clo f caps/\ys = (l.map fun x => unw true (evE s.env x)) ++ caps))) := by
 have hE := hS.ev;unfold opK at hK;cases op with
 | p o =>
  obtain ⟨z, t, h1, h2, h3⟩ := zr8 hS.sh.blk hE hS.raw o hK;exact .inl (.still hS.sh (by simp only [qe7, h1, Option.map_some]) h2 h3)
 | r o =>
  cases o with
  | load n agg x => exact .inl (qs0 hS.sh hid hs hC hE _ (.inr trivial) hK)
  | b2s x => exact .inl (qs0 hS.sh hid hs hC hE _ (.inr trivial) hK)
  | s2b x => exact .inl (qs0 hS.sh hid hs hC hE _ (.inr trivial) hK)
  | sla n x lo hi => exact .inl (qs0 hS.sh hid hs hC hE _ (.inr trivial) hK)
  | call f args =>
   by_cases hf : X.ct f = none/\X.lb f = none/\X.mt f = none
   ·cases hd : dr with
    | true => subst hd; exact .inl (qs0 hS.sh hid hs hC hE _ (.inl rfl) hK)
    | false =>
     subst hd;simp only [qfQ, qeK, zg6, hf.1, hf.2.1, hf.2.2] at hK;exact .inr ⟨rfl, _, f, _, _, rfl, hK, VRs.map hE, .inl ⟨args, rfl, rfl⟩⟩
   ·exact .inl (qs0 hS.sh hid hs hC hE _ (.inr (by
     by_cases h1 : X.ct f = none
     ·by_cases h2 : X.lb f = none
      ·exact .inr (.inr fun h3 => hf ⟨h1, h2, h3⟩)
      ·exact .inr (.inl h2)
     ·exact .inl h1)) hK)
  | callv x args =>
   cases hd : dr with
   | true => subst hd; exact .inl (qs0 hS.sh hid hs hC hE _ (.inl rfl) hK)
   | false =>
    subst hd;by_cases hf : ∀ f caps, evT (e ++ Es) x = .clo f caps->X.ct f ≠ none\/X.lb f ≠ none\/X.mt f ≠ none
    ·exact .inl (qs0 hS.sh hid hs hC hE _ (.inr hf) hK)
    ·have : ∃ f caps, evT (e ++ Es) x = .clo f caps/\X.ct f = none/\X.lb f = none/\X.mt f = none := by
      apply Classical.byContradiction
      intro hn;refine hf fun f caps h1 => ?_
      by_cases h2 : X.ct f = none
      ·by_cases h3 : X.lb f = none
       ·exact .inr (.inr fun h4 => hn ⟨f, caps, h1, h2, h3, h4⟩)
       ·exact .inr (.inl h3)
      ·exact .inl h2
     obtain ⟨f, caps, hx, hf, hf2, hf3⟩ := this;simp only [qfQ, hx, qeK, zg6, hf, hf2, hf3] at hK;have hxr := hE x;rw [hx] at hxr;refine .inr ⟨rfl, .callv x args, f, args.map (evT (e ++ Es)) ++ caps, ?_⟩;generalize hz : unw true (evE s.env x) = y at hxr;cases hxr with
     | clo _ _ ys hl hv => exact ⟨_, rfl, hK, (VRs.map hE).append ⟨hl, hv⟩, .inr ⟨x, args, rfl, .inr ⟨ys, hz, rfl⟩⟩⟩
     | clov _ _ ds hl hv => exact ⟨_, rfl, hK, (VRs.map hE).append (.ofV hl hv), .inr ⟨x, args, rfl, .inl ⟨ds, hz, rfl⟩⟩⟩
 | a o => exact .inl (zh6 hS.sh hE hid hs ty o hK)
 | w o => exact .inl (zh7 hS.sh hE hid hs ty o hK)
theorem qeM {j : Nat} : ∀ {ops seg rest : List TIns} {d : Nat}, qcS j ops = some (seg, d, rest)->ops = seg ++ rest
 | [], seg, rest, d, h => by cases h
 | i :: l, seg, rest, d, h => by
  have next : ∀ {x : Option (List TIns × Nat × List TIns)}, x = qcS j l->(match x with
    | some (a, d, b) => some (i :: a, d, b)
    | none => none) = some (seg, d, rest)->i :: l = seg ++ rest := by
   intro x hx h;split at h
   ·rename_i a d' b
    cases h;rw [qeM hx.symm];rfl
   ·cases h
  unfold qcS at h;split at h
  ·split at h
   ·cases h; rfl
   ·exact next rfl h
  ·exact next rfl h
theorem qiJ (a b : List TIns) : qf8 (a ++ b) = qf8 a ++ qf8 b := by
 induction a with
 | nil => rfl
 | cons i a ih => simp only [List.cons_append, qf8, ih]
theorem qlU : ∀ {l m : List Nat}, zr2 l m = true->∀ i ∈ l, i ∈ m
 | [], m, _, i, hi => by cases hi
 | k :: l, m, h, i, hi => by
  simp only [zr2, Bool.and_eq_true] at h;rcases List.mem_cons.1 hi with rfl | hi
  ·simpa using h.1
  ·exact qlU h.2 i hi
theorem za9 : ∀ {l : List Nat} {c : Nat}, zg8 c l = true->∀ i ∈ l, c<=i
 | [], c, _, i, hi => by cases hi
 | k :: l, c, h, i, hi => by
  simp only [zg8, Bool.and_eq_true] at h;rcases List.mem_cons.1 hi with rfl | hi
  ·exact qg3 h.1
  ·exact za9 h.2 i hi
theorem qu1 {h : HpT} {i : Nat} (hi : i ∉ qv5 h) : qa0 h i = none := by
 induction h with
 | nil => rfl
 | cons p h ih =>
  obtain ⟨k, b⟩ := p;simp only [qv5, List.mem_cons, not_or] at hi;simp only [qa0];cases hk : Nat.beq k i with
  | true => exact absurd (qb2 hk).symm hi.1
  | false => exact ih hi.2
theorem qf3 : ∀ (l : List Nat) (e Es : qd9) (t : Nat), qa5 (qj6 l e ++ Es) t = if t ∈ l then .junk else qa5 (e ++ Es) t
 | [], e, Es, t => by simp [qj6]
 | i :: l, e, Es, t => by
  simp only [qj6, List.cons_append, qb7, qf3 l, List.mem_cons];by_cases h : t = i
  ·simp [h]
  ·simp [h]
theorem VR.via {σ1 σ2 : Nat->Option Id} {H1 H2 H0 : HpT} {x : TV} {y : AV} (h : VR σ1 H1 x y) (hg : ∀ i b, (qa0 H0 i).isSome = true->qa0 H1 i = some b->σ2 i = σ1 i/\∃ b', qa0 H2 i = some b'/\Cp b b') : ∀ {σ0 : Nat->Option Id} {y0 : AV}, VR σ0 H0 x y0->VR σ2 H2 x y := by
 have rowlike : ∀ {i : Nat} {s : Sh} {l : List (El s)} {w : Bool}, (qa0 H0 i).isSome = true->qa0 H1 i = some (.row s l w)->σ2 i = σ1 i/\((∃ (l' : List (El s)) (w' : Bool), qa0 H2 i = some (.row s l' w')/\l'.length = l.length)\/qa0 H2 i = some .dead) := by
  intro i s l w h0 hi;obtain ⟨e, b', h1, h2⟩ := hg i _ h0 hi;refine ⟨e, ?_⟩;cases b' with
  | row s' l' w' =>
   obtain ⟨rfl, h3⟩ := h2;exact .inl ⟨l', w', h1, h3⟩
  | dead => exact .inr h1
  | box => exact h2.elim
  | fns => exact h2.elim
 have deadlike : ∀ {i : Nat}, (qa0 H0 i).isSome = true->qa0 H1 i = some .dead->qa0 H2 i = some .dead := by
  intro i h0 hi;obtain ⟨_, b', h1, h2⟩ := hg i _ h0 hi;cases b' with
  | dead => exact h1
  | row => exact h2.elim
  | box => exact h2.elim
  | fns => exact h2.elim
 have ownH : ∀ {i : Nat} {σ0 : Nat->Option Id} {y0 : AV}, VR σ0 H0 (.own i) y0->(qa0 H0 i).isSome = true := by
  intro i σ0 y0 h;cases h <;> simp_all
 have rowH : ∀ {i o n : Nat} {σ0 : Nat->Option Id} {y0 : AV}, VR σ0 H0 (.row i o n) y0->(qa0 H0 i).isSome = true := by
  intro i o n σ0 y0 h;cases h <;> simp_all
 have boxH : ∀ {i o : Nat} {σ0 : Nat->Option Id} {y0 : AV}, VR σ0 H0 (.box i o) y0->(qa0 H0 i).isSome = true := by
  intro i o σ0 y0 h;cases h <;> simp_all
 have eltH : ∀ {i j o : Nat} {σ0 : Nat->Option Id} {y0 : AV}, VR σ0 H0 (.elt i j o) y0->(qa0 H0 i).isSome = true := by
  intro i j o σ0 y0 h;cases h <;> simp_all
 have winH : ∀ {i s o n : Nat} {σ0 : Nat->Option Id} {y0 : AV}, VR σ0 H0 (.win i s o n) y0->(qa0 H0 i).isSome = true := by
  intro i s o n σ0 y0 h;cases h <;> simp_all
 have list : ∀ {l : List TV} {ys : List AV} {σ0 : Nat->Option Id} {ys0 : List AV}, ys0.length = l.length->(∀ (j : Nat) x y, l[j]? = some x->ys0[j]? = some y->VR σ0 H0 x y)->(∀ (j : Nat) x y, l[j]? = some x->ys[j]? = some y->∀ {σ0 : Nat->Option Id} {y0 : AV}, VR σ0 H0 x y0->VR σ2 H2 x y)->∀ (j : Nat) x y, l[j]? = some x->ys[j]? = some y->VR σ2 H2 x y := by
  intro l ys σ0 ys0 hl h0 ih j x y h1 h2;have hj : j < ys0.length := by rw [hl]; exact (List.getElem?_eq_some_iff.1 h1).1
  exact ih j x y h1 h2 (h0 j x _ h1 (List.getElem?_eq_getElem hj))
 have listv : ∀ {l : List TV} {ds : List DV} {σ0 : Nat->Option Id}, ds.length = l.length->(∀ (j : Nat) x y, l[j]? = some x->ds[j]? = some y->VR σ0 H0 x (.val y))->(ds.map AV.val).length = l.length/\∀ (j : Nat) x y, l[j]? = some x->(ds.map AV.val)[j]? = some y->VR σ0 H0 x y := fun hl h => (VRs.ofV hl h)
 induction h with
 | lit b => intro σ0 y0 _; exact .lit b
 | d x h => intro σ0 y0 _; exact .d x h
 | nil k => intro σ0 y0 _; exact .nil k
 | sl s l k hf hk => intro σ0 y0 _; exact .sl s l k hf hk
 | sln s k hf => intro σ0 y0 _; exact .sln s k hf
 | own i id s l w h hi =>
  intro σ0 y0 h0;obtain ⟨e, ⟨l', w', h1, h2⟩ | h1⟩ := rowlike (ownH h0) h
  ·have := VR.own i id s l' w' h1 (e.trans hi)
   rwa [h2] at this
  ·exact .ownD _ _ _ _ _ h1
 | ownN i s l w k h hi hl =>
  intro σ0 y0 h0;obtain ⟨e, ⟨l', w', h1, h2⟩ | h1⟩ := rowlike (ownH h0) h
  ·refine .ownN i s l' w' k h1 (e.trans hi) (List.eq_nil_of_length_eq_zero ?_)
   rw [h2, hl]; rfl
  ·exact .ownDN _ _ h1
 | ownD i id k o n h => intro σ0 y0 h0; exact .ownD _ _ _ _ _ (deadlike (ownH h0) h)
 | ownDN i k h => intro σ0 y0 h0; exact .ownDN _ _ (deadlike (ownH h0) h)
 | row i o n id s l w h hi ho =>
  intro σ0 y0 h0;obtain ⟨e, ⟨l', w', h1, h2⟩ | h1⟩ := rowlike (rowH h0) h
  ·exact .row i o n id s l' w' h1 (e.trans hi) (by omega)
  ·exact .rowD _ _ _ _ _ _ _ h1
 | rowN i s l w k h hi hl =>
  intro σ0 y0 h0;obtain ⟨e, ⟨l', w', h1, h2⟩ | h1⟩ := rowlike (rowH h0) h
  ·refine .rowN i s l' w' k h1 (e.trans hi) (List.eq_nil_of_length_eq_zero ?_)
   rw [h2, hl]; rfl
  ·exact .rowDN _ _ _ _ h1
 | rowD i o n id k o' n' h => intro σ0 y0 h0; exact .rowD _ _ _ _ _ _ _ (deadlike (rowH h0) h)
 | rowDN i o n k h => intro σ0 y0 h0; exact .rowDN _ _ _ _ (deadlike (rowH h0) h)
 | agg l ys hl _ ih =>
  intro σ0 y0 h0;cases h0 with
  | agg _ ys0 hl0 h0 => exact .agg l ys hl (list hl0 h0 ih)
  | aggv _ ds0 hl0 h0 => exact .agg l ys hl (list (listv hl0 h0).1 (listv hl0 h0).2 ih)
 | aggv l ds hl _ ih =>
  intro σ0 y0 h0;refine .aggv l ds hl (fun j x y h1 h2 => ?_);cases h0 with
  | agg _ ys0 hl0 h0 =>
   have hj : j < ys0.length := by rw [hl0]; exact (List.getElem?_eq_some_iff.1 h1).1
   exact ih j x y h1 h2 (h0 j x _ h1 (List.getElem?_eq_getElem hj))
  | aggv _ ds0 hl0 h0 =>
   have hj : j < ds0.length := by rw [hl0]; exact (List.getElem?_eq_some_iff.1 h1).1
   exact ih j x y h1 h2 (h0 j x _ h1 (List.getElem?_eq_getElem hj))
 | tup l ys hl _ ih =>
  intro σ0 y0 h0;cases h0 with
  | tup _ ys0 hl0 h0 => exact .tup l ys hl (list hl0 h0 ih)
  | tupv _ ds0 hl0 h0 => exact .tup l ys hl (list (listv hl0 h0).1 (listv hl0 h0).2 ih)
 | tupv l ds hl _ ih =>
  intro σ0 y0 h0;refine .tupv l ds hl (fun j x y h1 h2 => ?_);cases h0 with
  | tup _ ys0 hl0 h0 =>
   have hj : j < ys0.length := by rw [hl0]; exact (List.getElem?_eq_some_iff.1 h1).1
   exact ih j x y h1 h2 (h0 j x _ h1 (List.getElem?_eq_getElem hj))
  | tupv _ ds0 hl0 h0 =>
   have hj : j < ds0.length := by rw [hl0]; exact (List.getElem?_eq_some_iff.1 h1).1
   exact ih j x y h1 h2 (h0 j x _ h1 (List.getElem?_eq_getElem hj))
 | box i o id b h hi =>
  intro σ0 y0 h0;obtain ⟨e, b', h1, _⟩ := hg i _ (boxH h0) h;exact .box i o id b' h1 (e.trans hi)
 | elt i j o id b h hi =>
  intro σ0 y0 h0;obtain ⟨e, b', h1, _⟩ := hg i _ (eltH h0) h;exact .elt i j o id b' h1 (e.trans hi)
 | eltD i j o id h => intro σ0 y0 h0; exact .eltD _ _ _ _ (deadlike (eltH h0) h)
 | win i s o n id b h hi =>
  intro σ0 y0 h0;obtain ⟨e, b', h1, _⟩ := hg i _ (winH h0) h;exact .win i s o n id b' h1 (e.trans hi)
 | pt s x o hf => intro σ0 y0 _; exact .pt s x o hf
 | clo f l ys hl _ ih =>
  intro σ0 y0 h0;cases h0 with
  | clo _ _ ys0 hl0 h0 => exact .clo f l ys hl (list hl0 h0 ih)
  | clov _ _ ds0 hl0 h0 => exact .clo f l ys hl (list (listv hl0 h0).1 (listv hl0 h0).2 ih)
 | clov f l ds hl _ ih =>
  intro σ0 y0 h0;refine .clov f l ds hl (fun j x y h1 h2 => ?_);cases h0 with
  | clo _ _ ys0 hl0 h0 =>
   have hj : j < ys0.length := by rw [hl0]; exact (List.getElem?_eq_some_iff.1 h1).1
   exact ih j x y h1 h2 (h0 j x _ h1 (List.getElem?_eq_getElem hj))
  | clov _ _ ds0 hl0 h0 =>
   have hj : j < ds0.length := by rw [hl0]; exact (List.getElem?_eq_some_iff.1 h1).1
   exact ih j x y h1 h2 (h0 j x _ h1 (List.getElem?_eq_getElem hj))
 | undef => intro σ0 y0 _; exact .undef
 | undefM x => intro σ0 y0 _; exact .undefM x
 | junk y => intro σ0 y0 _; exact .junk y
theorem VRm.any {σ : Nat->Option Id} {H : HpT} {x : TV} {y : AV} (h : VRm σ H x y) : ∃ z, VR σ H x z := by
 rcases h with h | ⟨z, _, h, _⟩
 ·exact ⟨_, h⟩
 ·exact ⟨_, h⟩
theorem VRm.via {σ1 σ2 : Nat->Option Id} {H1 H2 H0 : HpT} {x : TV} {y : AV} (h : VRm σ1 H1 x y) (hg : ∀ i b, (qa0 H0 i).isSome = true->qa0 H1 i = some b->σ2 i = σ1 i/\∃ b', qa0 H2 i = some b'/\Cp b b') {σ0 : Nat->Option Id} {y0 : AV} (h0 : VRm σ0 H0 x y0) : VRm σ2 H2 x y := by
 obtain ⟨z, hz⟩ := h0.any;exact h.imp (fun h => h.via hg hz) fun ⟨z', e, h, hu⟩ => ⟨z', e, h.via hg hz, hu⟩
theorem SH.back {σ0 σ1 : Nat->Option Id} {H0 H1 : HpT} {c0 c1 : Nat} {A0 A1 : Hp} (h0 : SH σ0 H0 c0 A0) (h1 : SH σ1 H1 c1 A1) (hs : ∀ i b, qa0 H0 i = some b->qa0 H1 i = some b) : SH σ1 H0 c0 A1 := by
 have hg : ∀ i b, (qa0 H0 i).isSome = true->qa0 H1 i = some b->σ1 i = σ1 i/\∃ b', qa0 H0 i = some b'/\Cp b b' := by
  intro i b hi hb;obtain ⟨b', hb'⟩ := Option.isSome_iff_exists.1 hi;have := hs i b' hb';rw [hb] at this;cases this;exact ⟨rfl, b, hb', Cp.refl b⟩
 refine ⟨fun i b hb => ?_, fun i j id hi hj e1 e2 => ?_, h0.cnt, ?_⟩
 ·have q0 := h0.blk i b hb
  have q1 := h1.blk i b (hs i b hb);cases b with
  | box cells =>
   obtain ⟨id0, ys0, _, _, v0, _⟩ := q0;obtain ⟨id, ys, e1, e2, v1, e3⟩ := q1;refine ⟨id, ys, e1, e2, ⟨v1.1, fun j x y p1 p2 => ?_⟩, e3⟩;obtain ⟨y0, p3, p4⟩ := v0.get p1;exact (v1.2 j x y p1 p2).via hg p4
  | row s l w => cases w <;> exact q1
  | fns s l =>
   obtain ⟨id0, ys0, _, _, l0, v0⟩ := q0;obtain ⟨id, ys, e1, e2, l1, v1⟩ := q1;refine ⟨id, ys, e1, e2, l1, fun j x y p1 p2 => ⟨(v1 j x y p1 p2).1, fun m u z p3 p4 => ?_⟩⟩;have hj : j < ys0.length := by rw [l0]; exact (List.getElem?_eq_some_iff.1 p1).1
   obtain ⟨y0, p5, p6⟩ := (v0 j x _ p1 (List.getElem?_eq_getElem hj)).get p3;exact ((v1 j x y p1 p2).2 m u z p3 p4).via hg p6
  | dead => trivial
 ·have live : ∀ {i}, qoV H0 i->qoV H1 i := fun ⟨b, h1, h2⟩ => ⟨b, hs _ b h1, h2⟩
  exact h1.inj i j id (live hi) (live hj) e1 e2
 ·obtain ⟨N, f1, f2⟩ := h1.fresh
  exact ⟨N, f1, fun i b id hb e => f2 i b id (hs i b hb) e⟩
theorem qlV {Hx h' : HpT} {σ : Nat->Option Id} {c : Nat} {A : Hp} (h0 : SH σ Hx c A) (hk : zg8 c (qv5 h') = true) : ∀ i b, qa0 Hx i = some b->qa0 (h' ++ Hx) i = some b := by
 intro i b hb;rw [qa1, qu1 (fun hm => ?_)]
 ·exact hb
 ·have := za9 hk i hm
  have := h0.cnt i b hb;omega
theorem S9.seg {σ σ1 : Nat->Option Id} {e Es e' : qd9} {h Hs h' : HpT} {c c1 : Nat} {s s1 : St} {R : List (TV × AV)} {j d : Nat} {seg : List TIns} {v : Bool} (h0 : S9 σ (e ++ Es) (h ++ Hs) c s R) (h1 : S9 σ1 (e' ++ (e ++ Es)) (h' ++ (h ++ Hs)) c1 s1 R) (hk : segK j d c seg e' h' c1 = some v) :
  S9 σ1 ((d, .d (.bool v)) :: qj6 (j :: qf7 seg []) e ++ Es) (h ++ Hs) c s1 R := by
 unfold segK at hk;split at hk
 ·rename_i hc
  rw [Bool.and_eq_true] at hc;have hin := qlU hc.1;have hsame := qlV h0.sh hc.2
  have hg : ∀ i b, (qa0 (h ++ Hs) i).isSome = true->qa0 (h' ++ (h ++ Hs)) i = some b->σ1 i = σ1 i/\∃ b', qa0 (h ++ Hs) i = some b'/\Cp b b' := by
   intro i b hi hb;obtain ⟨b', hb'⟩ := Option.isSome_iff_exists.1 hi;have := hsame i b' hb';rw [hb] at this;cases this;exact ⟨rfl, b, hb', Cp.refl b⟩
  refine ⟨h0.sh.back h1.sh hsame, fun t => ?_, fun p hp => (h1.rel p hp).via hg (h0.rel p hp)⟩;rw [List.cons_append, qb7];by_cases ht : t = d
  ·rw [if_pos ht]
   subst ht
   have hd : qa5 (e' ++ (e ++ Es)) t = qa5 e' t\/qa5 e' t = .junk := by
    rw [qg5];split
    ·exact .inl rfl
    ·rename_i hn
     right
     clear h1 hk hc hin
     induction e' with
     | nil => rfl
     | cons p e' ih =>
      obtain ⟨k, x⟩ := p;simp only [qe9, List.mem_cons, not_or] at hn;rw [qb7, if_neg hn.1];exact ih hn.2
   rcases hd with hd | hd
   ·have := h1.env t
    rw [hd] at this;rcases this with h | ⟨z, hz, h, _⟩
    ·have := qu7 h hk
     rw [this];exact .inl (.d _ rfl)
    ·have := qu7 h hk
     subst this;exact .inr ⟨_, hz, .d _ rfl, by simp⟩
   ·rw [hd] at hk; cases hk
  ·rw [if_neg ht, qf3]
   split
   ·exact .inl (.junk _)
   ·rename_i hm
    have := h1.env t;rw [qg5, if_neg (fun hx => hm (hin t hx))] at this;exact this.via hg (h0.env t)
 ·cases hk
end
section
variable {P : Program} {C : FuncId->Con} {B : Id->Prop}
theorem qm4 {e : qd9} {t : Nat} (h : t ∉ qe9 e) : qa5 e t = .junk := by
 induction e with
 | nil => rfl
 | cons p e ih =>
  obtain ⟨k, x⟩ := p;simp only [qe9, List.mem_cons, not_or] at h;rw [qb7, if_neg h.1];exact ih h.2
def pairs (E : qd9) (s : St) : List (TV × AV) := (qe9 E).map fun t => (qa5 E t, look s.env.l t)
theorem S9.pairs {σ : Nat->Option Id} {E : qd9} {H : HpT} {c : Nat} {s : St} {R : List (TV × AV)} (h : S9 σ E H c s R) : ∀ p ∈ R ++ Go.AI.pairs E s, VRm σ H p.1 p.2 := by
 intro p hp;rcases List.mem_append.1 hp with hp | hp
 ·exact h.rel p hp
 ·obtain ⟨t, _, rfl⟩ := List.mem_map.1 hp
  exact h.env t
theorem S9.ofPairs {σ : Nat->Option Id} {E : qd9} {H : HpT} {c : Nat} {s : St} {R : List (TV × AV)} {A : Hp} (hS : SH σ H c A) (h : ∀ p ∈ R ++ Go.AI.pairs E s, VRm σ H p.1 p.2) : S9 σ E H c ⟨s.env, A⟩ R := by
 refine ⟨hS, fun t => ?_, fun p hp => h p (by simp [hp])⟩;by_cases ht : t ∈ qe9 E
 ·exact h _ (List.mem_append.2 (.inr (List.mem_map.2 ⟨t, ht, rfl⟩)))
 ·rw [qm4 ht]; exact .inl (.junk _)
theorem litE {σ : Nat->Option Id} {E : qd9} {H : HpT} {c : Nat} {s : St} {R : List (TV × AV)} (h : S9 σ E H c s R) {j : Nat} {t : Bool} (hj : qa5 E j = .d (.bool t)) : S9 σ ((j, .lit t) :: E) H c s R := by
 refine ⟨h.sh, fun u => ?_, h.rel⟩;rw [qb7];split
 ·rename_i e
  subst e;have := h.env u;rw [hj] at this;rcases this with h | ⟨z, hz, h, _⟩
  ·rw [h.d_inv]; exact .inl (.lit t)
  ·exact .inr ⟨z, hz, by rw [h.d_inv]; exact .lit t, by simp⟩
 ·exact h.env u
theorem qqW {X : Cx} {inl : Inl} (hC : qsD false X C) (hI : zs5 P C inl) : ∀ (n : Nat) (ρ : Type) (Es : qd9) (Hs : HpT) (ops : List TIns) (e : qd9) (h : HpT) (c : Nat) (K : KT ρ) (r : ρ), qt9 X inl false n ρ Es Hs ops e h c K = some r->∀ {σ : Nat->Option Id} {s : St} {R : List (TV × AV)}, S9 σ (e ++ Es) (h ++ Hs) c s R →
  (∀ i ∈ ops, ∀ d, i.i.dst = some d->d < s.env.n)->∀ (m : List AIns) (K' : St->Prop), (∀ e' h' c' σ' s', S9 σ' (e' ++ Es) (h' ++ Hs) c' s' R->s'.env.n = s.env.n->K e' h' c' = some r->RP P C B m K' s')->RP P C B (qf8 ops ++ m) K' s := by
 intro n
 induction n with
 | zero => intro ρ Es Hs ops e h c K r hK; cases hK
 | succ n ih =>
  intro ρ Es Hs ops e h c K r hK σ s R hS hd m K' hQ;cases ops with
  | nil => exact hQ e h c σ s hS rfl hK
  | cons i l =>
   have hdl : ∀ i ∈ l, ∀ d, i.i.dst = some d->d < s.env.n := fun i hi => hd i (by simp [hi])
   have hdi : ∀ d, i.i.dst = some d->d < s.env.n := hd i (by simp)
   -- an operation that is done
   have doIt : gv s.env i.i.guard = some true->opK X inl false Hs (evT (e ++ Es)) (qnK (e ++ Es)) i.ty i.i.op h c (fun x h c => fU x fun x => qt9 X inl false n ρ Es Hs l (qsC i.i.dst x e) h c K) = some r->RP P C B (qf8 (i :: l) ++ m) K' s := by
    intro hg hK;obtain ⟨id, hid, hids⟩ := hS.sh.new;rcases zs6 (ns := []) hC hS hid hids hK with ⟨z, A1, A2, t, h', c', σ', p1, p2, _, p4, p5, p6, p7, _⟩ | ⟨_, o, f, args, ys, ho, hinl, hargs, hp⟩
    ·obtain ⟨t', hu, hv, hK⟩ := qxC p7 p4
     refine RP_do (H := s.H) id hg hdi p1 (RP_sub (p2.sub B _) ?_);have hS' := hS.put p6 p5 hdi (.inl hv);refine ih ρ Es Hs l _ h' c' K r hK hS' (fun i hi d h => by rw [qdQ]; exact hdl i hi d h) m K' (fun e' h' c' σ' s' q1 q2 q3 => hQ e' h' c' σ' s' q1 (by rw [q2, qdQ]) q3)
    ·obtain ⟨af, haf, hI⟩ := hI ρ f Hs args h c _ r hinl
     have hi : qf8 (i :: l) ++ m = ⟨i.i.dst, .r o, i.i.guard⟩ :: (qf8 l ++ m) := by
      simp only [qf8, List.cons_append, ← ho]
     rw [hi];refine RP_inl (n := s.env.n) (e := s.env.l) (H := s.H) hg haf hp (fun B' => ?_);refine hI σ s.H ys (R ++ pairs (e ++ Es) s) hS.sh hargs hS.pairs (fun y A' => RP P C B (qf8 l ++ m) K' ⟨qw9 s.env i.i.dst y, A'⟩) ?_ B'
     intro x h' c' σ' y A' q1 q2 q3 q4;obtain ⟨t', hu, hv, hK⟩ := qxC q4 q2;have hS1 : S9 σ' (e ++ Es) (h' ++ Hs) c' ⟨s.env, A'⟩ R := .ofPairs q1 q3;have hS' := hS1.put (.refl _ _) q1 hdi (.inl hv);exact ih ρ Es Hs l _ h' c' K r hK hS' (fun i hi d h => by rw [qdQ]; exact hdl i hi d h) m K' (fun e' h' c' σ' s' q1 q2 q3 => hQ e' h' c' σ' s' q1 (by rw [q2, qdQ]) q3)
   -- one that is passed by
   have pass : gv s.env i.i.guard = some false->qt9 X inl false n ρ Es Hs l (qsC i.i.dst .undef e) h c K = some r->RP P C B (qf8 (i :: l) ++ m) K' s := by
    intro hg hK;refine RP_no (H := s.H) hg hdi ?_
    have hS' := hS.put (.refl _ _) hS.sh hdi (x := .undef) (y := .val (.tup [])) (.inl .undef);exact ih ρ Es Hs l _ h c K r hK hS' (fun i hi d h => by rw [qdQ]; exact hdl i hi d h) m K' (fun e' h' c' σ' s' q1 q2 q3 => hQ e' h' c' σ' s' q1 (by rw [q2, qdQ]) q3)
   simp only [qt9] at hK;split at hK
   ·rename_i hg
    exact doIt (by rw [hg]; rfl) hK
   ·rename_i j want hg
    split at hK
    ·rename_i b hj
     have hgv := gv_lit (want := want) hS hj;rw [← hg] at hgv;split at hK
     ·rename_i hb
      exact doIt (by rw [hgv, hb]) hK
     ·rename_i hb
      exact pass (by rw [hgv, hb]) hK
    ·rename_i hj
     exact pass (by rw [hg]; exact za8 hS hj) hK
    ·rename_i t hj
     have hlit := litE hS hj
     have whole : ∀ b, t = b->qt9 X inl false n ρ Es Hs (i :: l) ((j, .lit b) :: e) h c K = some r->RP P C B (qf8 (i :: l) ++ m) K' s := by
      rintro b rfl hK;exact ih ρ Es Hs (i :: l) _ h c K r hK hlit hd m K' hQ
     have split2 : cX t (qt9 X inl false n ρ Es Hs (i :: l) ((j, .lit true) :: e) h c K) (qt9 X inl false n ρ Es Hs (i :: l) ((j, .lit false) :: e) h c K) = some r->RP P C B (qf8 (i :: l) ++ m) K' s := by
      intro hK;rcases qlO hK with ⟨h1, h2⟩ | ⟨h1, h2⟩
      ·exact whole true h1 h2
      ·exact whole false h1 h2
     split at hK
     ·rename_i seg d rest hpick
      have hops := qeM hpick;split at hK
      ·-- both ways come together
       have both : ∀ b v, t = b->qt9 X inl false n Bool (e ++ Es) (h ++ Hs) seg [(j, .lit b)] [] c (segK j d c seg) = some v->qt9 X inl false n ρ Es Hs rest ((d, .d (.bool v)) :: qj6 (j :: qf7 seg []) e) h c K = some r->RP P C B (qf8 (i :: l) ++ m) K' s := by
        rintro b v rfl hseg hK;rw [hops, qiJ, List.append_assoc];have hmem : ∀ x ∈ seg ++ rest, ∀ d, x.i.dst = some d->d < s.env.n := fun x hx => hd x (by rw [hops]; exact hx)
        refine ih Bool (e ++ Es) (h ++ Hs) seg [(j, .lit t)] [] c _ v hseg (σ := σ) (s := s) (R := R) hlit (fun x hx => hmem x (by simp [hx])) _ K' ?_
        intro e' h' c' σ' s' q1 q2 q3;have hS2 := hS.seg q1 q3;exact ih ρ Es Hs rest _ h c K r hK hS2 (fun x hx d hd => by rw [q2]; exact hmem x (by simp [hx]) d hd) m K' (fun e' h' c' σ' s' p1 p2 p3 => hQ e' h' c' σ' s' p1 (p2.trans q2) p3)
       split at hK
       ·split at hK
        ·rename_i a b ha hb
         cases ht : t with
         | true => rw [ht] at hK; exact both true a ht ha hK
         | false => rw [ht] at hK; exact both false b ht hb hK
        ·cases hK
       ·obtain ⟨v, hv, hK⟩ := qi9 hK
        rcases qlO hv with ⟨h1, h2⟩ | ⟨h1, h2⟩
        ·exact both true v h1 h2 hK
        ·exact both false v h1 h2 hK
      ·exact split2 hK
     ·exact split2 hK
    ·cases hK
end
def qxD (X : Cx) (C : FuncId->Con) : Prop := qsD true ⟨X.ct, fun _ => false, fun _ => none, fun _ => none⟩ (qf2 C)/\∀ (S : List FuncId) (LB : List (FuncId × LibK)), (∀ f k, qx8 LB f = some k->X.ct f = none/\∃ sh, X.lb f = some (k, sh))->qsD true ⟨X.ct, fun f => S.contains f && (qx8 LB f).isNone, fun f => lbAt LB X f, fun _ => none⟩ (qm0 S LB C)
theorem qsD.of {X : Cx} {C : FuncId->Con} (hlb : ∀ f k sh, X.ct f = none->X.lb f = some (k, sh)->C f = .shared (qc7 k)) (hmt : ∀ f tc, X.ct f = none->X.lb f = none->X.mt f = some tc->(∀ r ∈ tc.res, r.fine = true)/\C f = .shared (qnR tc)) (h : ∀ f tc, X.ct f = some tc->(∀ r ∈ tc.res, r.fine = true)/\C f = .val (qm3 tc)) : qsD false X C/\qxD X C := by
 have full : ∀ (D : FuncId->Con) (b : Bool) (sq : FuncId->Bool) f tc, X.ct f = some tc->D f = .val (qm3 tc)->(∀ r ∈ tc.res, r.fine = true)/\∀ (H H' : Hp) id args a ds ids v, qf5 H 99 args = some (ds, ids)->ds.map zA = (eaL tc.args a).map zA->tc.g a = some v->(b = true->qaJ (qiW tc.res) = true\/ids = []\/sq f = true) →
   (b = true->∀ i ∈ (if qaJ (qiW tc.res) = true then [] else ids), qnO H i = true)->fix H (if qaJ (qiW tc.res) = true then [] else ids) = some H'->qt8 D H id f args = some (.val (ebL tc.res v), H') := by
  intro D b sq f tc hf h2;obtain ⟨h1, _⟩ := h f tc hf;refine ⟨h1, fun H H' id args a ds ids v q1 q2 q3 _ _ q5 => ?_⟩;unfold qt8;rw [h2];simp only [qwG, q1, qw1 tc a q2, q3, Option.map_some, qjQ];rw [q5];rfl
 have flat : ∀ (D : FuncId->Con) (sq : FuncId->Bool) f tc, X.ct f = some tc->sq f = false->(∀ H id args, qt8 D H id f args = qt8 (qf2 C) H id f args)->(∀ r ∈ tc.res, r.fine = true)/\∀ (H H' : Hp) id args a ds ids v, qf5 H 99 args = some (ds, ids)->ds.map zA = (eaL tc.args a).map zA->tc.g a = some v->(true = true->qaJ (qiW tc.res) = true\/ids = []\/sq f = true) →
   (true = true->∀ i ∈ (if qaJ (qiW tc.res) = true then [] else ids), qnO H i = true)->fix H (if qaJ (qiW tc.res) = true then [] else ids) = some H'->qt8 D H id f args = some (.val (ebL tc.res v), H') := by
  intro D sq f tc hf hsq hD;obtain ⟨h1, h2⟩ := h f tc hf;refine ⟨h1, fun H H' id args a ds ids v q1 q2 q3 q4 _ q5 => ?_⟩
  have q4 : qaJ (qiW tc.res) = true\/ids = [] := by
   rcases q4 rfl with h | h | h
   ·exact .inl h
   ·exact .inr h
   ·rw [hsq] at h; cases h
  have hH : H' = H := by
   rcases q4 with h3 | h3
   ·rw [if_pos h3] at q5
    exact (Option.some.inj q5).symm
   ·subst h3
    rw [ite_self] at q5;exact (Option.some.inj q5).symm
  subst hH;rw [hD];refine qzD h2 q1 (by rw [qw1 tc a q2, q3]; rfl) ?_
  rw [qjQ];rcases q4 with h3 | h3
  ·rw [h3]; rfl
  ·subst h3; simp
 refine ⟨⟨fun f tc hf => full C false X.sq f tc hf (h f tc hf).2, hlb, fun _ => hmt⟩, ⟨fun f tc hf => flat (qf2 C) (fun _ => false) f tc hf rfl fun _ _ _ => rfl, (fun f k sh _ hl => by cases hl), (fun q => by cases q)⟩, fun S LB hLB => ⟨fun f tc hf => ?_, fun f k sh hn hl => ?_, (fun q => by cases q)⟩⟩
 ·have hln : qx8 LB f = none := by
   cases hq : qx8 LB f with
   | none => rfl
   | some k =>
    have := (hLB f k hq).1;rw [hf] at this;cases this
  cases hS : S.contains f with
  | true =>
   have e : qm0 S LB C f = .shared fun _ args H => zf7 (qm3 tc) H args := by
    unfold qm0;rw [hln];simp only [hS, (h f tc hf).2]
   refine ⟨(h f tc hf).1, fun H H' id args a ds ids v q1 q2 q3 _ q4 q5 => ?_⟩;unfold qt8;rw [e];refine zn6 q1 (by rw [qw1 tc a q2, q3]; rfl) ?_ ?_
   ·rw [qjQ]; exact q4 rfl
   ·rw [qjQ]; exact q5
  | false => exact flat (qm0 S LB C) _ f tc hf (by simp only [hS, Bool.false_and]) fun H id args => qjH hS hln
 ·simp only [lbAt] at hl
  split at hl
  ·rename_i k' hq
   obtain ⟨_, sh', h2⟩ := hLB f k' hq;rw [hl] at h2;cases h2;unfold qm0;rw [hq]
  ·cases hl
theorem zs7 {C : FuncId->Con} {H H' : Hp} {ρ : Opd->AV} {ρp : Bool->Opd->AV} {ns id : Id} {op : AOp} {z : AV} (hc : qaC op = true) (h : qe7 C H ρ ρp ns id op = some (z, H')) : H' = H := by
 cases op with
 | p o =>
  simp only [qe7, Option.map_eq_some_iff, Prod.mk.injEq] at h;obtain ⟨_, _, _, h⟩ := h;exact h.symm
 | r o =>
  cases o with
  | load n agg x =>
   simp only [qe7, Option.map_eq_some_iff, Prod.mk.injEq] at h;obtain ⟨_, _, _, h⟩ := h;exact h.symm
  | _ => simp [qaC] at hc
 | _ => simp [qaC] at hc
theorem qhG {C : FuncId->Con} {ns : Id} : ∀ {l m : List AIns} {s : St}, run C ns (l ++ m) s = match run C ns l s with
  | some s' => run C ns m s'
  | none => none
 | [], m, s => rfl
 | i :: l, m, s => by
  simp only [List.cons_append, run];cases step C ns s i with
  | none => rfl
  | some s' => exact qhG
section
variable {P : Program} {C : FuncId->Con} {ns : Id}
def qiX (ns : Id) (σ : Nat->Option Id) (H : HpT) (A : Hp) (ops : List TIns) : Prop := ∀ i ∈ ops, ∀ d, i.i.dst = some d->A (d :: ns) = none/\∀ k b, qa0 H k = some b->σ k ≠ some (d :: ns)
def ND : List TIns->Prop
 | [] => True
 | i :: l => (∀ d, i.i.dst = some d->∀ x ∈ l, x.i.dst ≠ some d)/\ND l
def qfX (i : TIns) : Bool := match i.i.dst, i.i.op with
 | some _, _ => true
 | none, .w (.store _ _ _) => true
 | _, _ => false
theorem step_yes {s : St} {i : AIns} (hg : gv s.env i.guard = some true) {z : AV} {A1 : Hp} (h : qe7 C s.H (fun x => unw true (evE s.env x)) (fun t x => unw t (evE s.env x)) ns (qj2 i ns) i.op = some (z, A1)) : ∃ z', (z' = z\/z' = .may true z)/\step C ns s i = some ⟨qw9 s.env i.dst z', A1⟩ := by
 unfold step eff;rw [hg];simp only [qv7];by_cases hc : (qaC i.op && i.guard.isSome) = true
 ·rw [if_pos hc]
  simp only [Bool.true_and, h];rw [Bool.and_eq_true] at hc;have := zs7 hc.1 h;subst this;exact ⟨_, .inr rfl, rfl⟩
 ·rw [if_neg hc]
  simp only [cond_true, h];exact ⟨z, .inl rfl, rfl⟩
theorem step_no {s : St} {i : AIns} (hg : gv s.env i.guard = some false) : ∃ z', (z' = .val (.tup [])\/∃ x, z' = .may false x)/\step C ns s i = some ⟨qw9 s.env i.dst z', s.H⟩ := by
 unfold step eff;rw [hg];simp only [qv7];by_cases hc : (qaC i.op && i.guard.isSome) = true
 ·rw [if_pos hc]
  split
  ·rename_i x h heq
   split at heq
   ·cases heq; exact ⟨_, .inr ⟨_, rfl⟩, rfl⟩
   ·cases heq; exact ⟨_, .inl rfl, rfl⟩
  ·rename_i heq
   split at heq
   ·cases heq
   ·cases heq
 ·rw [if_neg hc]
  exact ⟨_, .inl rfl, rfl⟩
theorem nd_app : ∀ {a b : List TIns}, ND (a ++ b)->ND b
 | [], _, h => h
 | _ :: _, _, h => nd_app h.2
theorem qcU {X : Cx} {inl : Inl} (hC : qsD true X C) (hns : ns ≠ []) : ∀ (n : Nat) (ρ : Type) (Es : qd9) (Hs : HpT) (ops : List TIns) (e : qd9) (h : HpT) (c : Nat) (K : KT ρ) (r : ρ), qt9 X inl true n ρ Es Hs ops e h c K = some r->∀ {σ : Nat->Option Id} {s : St} {R : List (TV × AV)}, S9 σ (e ++ Es) (h ++ Hs) c s R →
  (∀ i ∈ ops, ∀ d, i.i.dst = some d->d < s.env.n)->(∀ i ∈ ops, qfX i = true)->∀ (m : List TIns), ND (ops ++ m)->qiX ns σ (h ++ Hs) s.H (ops ++ m) →
  ∃ e' h' c' σ' s', run C ns (qf8 ops) s = some s'/\S9 σ' (e' ++ Es) (h' ++ Hs) c' s' R/\s'.env.n = s.env.n/\K e' h' c' = some r/\qiX ns σ' (h' ++ Hs) s'.H m := by
 intro n
 induction n with
 | zero => intro ρ Es Hs ops e h c K r hK; cases hK
 | succ n ih =>
  intro ρ Es Hs ops e h c K r hK σ s R hS hd hnm m hnd hN;cases ops with
  | nil => exact ⟨e, h, c, σ, s, rfl, hS, rfl, hK, hN⟩
  | cons i l =>
   have hdl : ∀ i ∈ l, ∀ d, i.i.dst = some d->d < s.env.n := fun i hi => hd i (by simp [hi])
   have hdi : ∀ d, i.i.dst = some d->d < s.env.n := hd i (by simp);have hnml : ∀ i ∈ l, qfX i = true := fun i hi => hnm i (by simp [hi])
   have doIt : gv s.env i.i.guard = some true->opK X inl true Hs (evT (e ++ Es)) (qnK (e ++ Es)) i.ty i.i.op h c (fun x h c => fU x fun x => qt9 X inl true n ρ Es Hs l (qsC i.i.dst x e) h c K) = some r →
     ∃ e' h' c' σ' s', run C ns (qf8 (i :: l)) s = some s'/\S9 σ' (e' ++ Es) (h' ++ Hs) c' s' R/\s'.env.n = s.env.n/\K e' h' c' = some r/\qiX ns σ' (h' ++ Hs) s'.H m := by
    intro hg hK
    obtain ⟨id, hid, hids, hido⟩ : ∃ id, s.H id = none/\(∀ k b, qa0 (h ++ Hs) k = some b->σ k ≠ some id)/\((∃ d, i.i.dst = some d/\id = d :: ns)\/((∀ d : Nat, d :: ns ≠ id)/\∃ n x v, i.i.op = .w (.store n x v))) := by
     cases hdst : i.i.dst with
     | some d =>
      obtain ⟨h1, h2⟩ := hN i (by simp) d hdst;exact ⟨d :: ns, h1, h2, .inl ⟨d, rfl, rfl⟩⟩
     | none =>
      obtain ⟨N, h1, h2⟩ := hS.sh.new1;refine ⟨[N], h1, h2, .inr ⟨fun d e => by cases ns <;> simp_all, ?_⟩⟩;have := hnm i (by simp);simp only [qfX, hdst] at this;split at this
      ·rename_i e; cases e
      ·rename_i n x v _ e; exact ⟨n, x, v, e⟩
      ·cases this
    rcases zs6 (ns := ns) hC hS hid hids hK with ⟨z, A1, A2, t, h', c', σ', p1, _, p3, p4, p5, p6, p7, p8, p9⟩ | ⟨hf, _⟩
    ·cases p3 rfl
     have p1' : qe7 C s.H (fun x => unw true (evE s.env x)) (fun t x => unw t (evE s.env x)) ns (qj2 i.i ns) i.i.op = some (z, A1) := by
      rcases hido with ⟨d, hd, rfl⟩ | ⟨_, n, x, v, ho⟩
      ·have e : qj2 i.i ns = d :: ns := by simp only [qj2, hd, Option.getD_some]
       rw [e]; exact p1
      ·rw [ho] at p1 ⊢; exact p1
     obtain ⟨z', hz', hst⟩ := step_yes hg p1';obtain ⟨t', hu, hv, hK⟩ := qxC p7 p4
     have hv' : VRm σ' (h' ++ Hs) t' z' := by
      rcases hz' with rfl | rfl
      ·exact .inl hv
      ·exact .inr ⟨z, rfl, hv, hu⟩
     have hS' := hS.put p6 p5 hdi hv'
     have hN' : qiX ns σ' (h' ++ Hs) A1 (l ++ m) := by
      intro x hx d hdx;obtain ⟨h1, h2⟩ := hN x (by simp only [List.cons_append, List.mem_cons]; exact .inr hx) d hdx
      have hne : d :: ns ≠ id := by
       rcases hido with ⟨d', hd', rfl⟩ | ⟨h, _⟩
       ·intro e
        cases e;exact hnd.1 d hd' x hx hdx
       ·exact h d
      refine ⟨p8 _ hne h1, fun k b hk e => ?_⟩;rcases p9 k b _ hk e with e' | ⟨b0, h3, h4⟩
      ·exact hne e'
      ·exact h2 k b0 h3 h4
     obtain ⟨e2, h2, c2, σ2, s2, q1, q2, q3, q4, q5⟩ := ih ρ Es Hs l _ h' c' K r hK hS' (fun i hi d h => by rw [qdQ]; exact hdl i hi d h) hnml m hnd.2 hN';exact ⟨e2, h2, c2, σ2, s2, by simp only [qf8, run, hst]; exact q1, q2, by rw [q3, qdQ], q4, q5⟩
    ·cases hf
   have pass : gv s.env i.i.guard = some false->qt9 X inl true n ρ Es Hs l (qsC i.i.dst .undef e) h c K = some r →
     ∃ e' h' c' σ' s', run C ns (qf8 (i :: l)) s = some s'/\S9 σ' (e' ++ Es) (h' ++ Hs) c' s' R/\s'.env.n = s.env.n/\K e' h' c' = some r/\qiX ns σ' (h' ++ Hs) s'.H m := by
    intro hg hK;obtain ⟨z', hz', hst⟩ := step_no (C := C) (ns := ns) hg
    have hS' := hS.put (.refl _ _) hS.sh hdi (x := .undef) (y := z') (.inl (by
     rcases hz' with rfl | ⟨x, rfl⟩
     ·exact .undef
     ·exact .undefM x))
    obtain ⟨e2, h2, c2, σ2, s2, q1, q2, q3, q4, q5⟩ := ih ρ Es Hs l _ h c K r hK hS' (fun i hi d h => by rw [qdQ]; exact hdl i hi d h) hnml m hnd.2 (fun x hx => hN x (by simp only [List.cons_append, List.mem_cons]; exact .inr hx));exact ⟨e2, h2, c2, σ2, s2, by simp only [qf8, run, hst]; exact q1, q2, by rw [q3, qdQ], q4, q5⟩
   simp only [qt9] at hK;split at hK
   ·rename_i hg
    exact doIt (by rw [hg]; rfl) hK
   ·rename_i j want hg
    split at hK
    ·rename_i b hj
     have hgv := gv_lit (want := want) hS hj;rw [← hg] at hgv;split at hK
     ·rename_i hb
      exact doIt (by rw [hgv, hb]) hK
     ·rename_i hb
      exact pass (by rw [hgv, hb]) hK
    ·rename_i hj
     exact pass (by rw [hg]; exact za8 hS hj) hK
    ·rename_i t hj
     have hlit := litE hS hj
     have whole : ∀ b, t = b->qt9 X inl true n ρ Es Hs (i :: l) ((j, .lit b) :: e) h c K = some r →
       ∃ e' h' c' σ' s', run C ns (qf8 (i :: l)) s = some s'/\S9 σ' (e' ++ Es) (h' ++ Hs) c' s' R/\s'.env.n = s.env.n/\K e' h' c' = some r/\qiX ns σ' (h' ++ Hs) s'.H m := by
      rintro b rfl hK;exact ih ρ Es Hs (i :: l) _ h c K r hK hlit hd hnm m hnd hN
     have split2 : cX t (qt9 X inl true n ρ Es Hs (i :: l) ((j, .lit true) :: e) h c K) (qt9 X inl true n ρ Es Hs (i :: l) ((j, .lit false) :: e) h c K) = some r →
       ∃ e' h' c' σ' s', run C ns (qf8 (i :: l)) s = some s'/\S9 σ' (e' ++ Es) (h' ++ Hs) c' s' R/\s'.env.n = s.env.n/\K e' h' c' = some r/\qiX ns σ' (h' ++ Hs) s'.H m := by
      intro hK;rcases qlO hK with ⟨h1, h2⟩ | ⟨h1, h2⟩
      ·exact whole true h1 h2
      ·exact whole false h1 h2
     split at hK
     ·rename_i seg d rest hpick
      have hops := qeM hpick;split at hK
      ·have both : ∀ b v, t = b->qt9 X inl true n Bool (e ++ Es) (h ++ Hs) seg [(j, .lit b)] [] c (segK j d c seg) = some v->qt9 X inl true n ρ Es Hs rest ((d, .d (.bool v)) :: qj6 (j :: qf7 seg []) e) h c K = some r →
         ∃ e' h' c' σ' s', run C ns (qf8 (i :: l)) s = some s'/\S9 σ' (e' ++ Es) (h' ++ Hs) c' s' R/\s'.env.n = s.env.n/\K e' h' c' = some r/\qiX ns σ' (h' ++ Hs) s'.H m := by
        rintro b v rfl hseg hK;have hmem : ∀ x ∈ seg ++ rest, ∀ d, x.i.dst = some d->d < s.env.n := fun x hx => hd x (by rw [hops]; exact hx)
        have hnm2 : ∀ x ∈ seg ++ rest, qfX x = true := fun x hx => hnm x (by rw [hops]; exact hx)
        rw [hops] at hnd hN;rw [List.append_assoc] at hnd hN;obtain ⟨e1, h1, c1, σ1, s1, q1, q2, q3, q4, q5⟩ := ih Bool (e ++ Es) (h ++ Hs) seg [(j, .lit t)] [] c _ v hseg (σ := σ) (s := s) (R := R) hlit (fun x hx => hmem x (by simp [hx])) (fun x hx => hnm2 x (by simp [hx])) (rest ++ m) hnd hN;have hS2 := hS.seg q2 q4
        have hge : zg8 c (qv5 h1) = true := by
         unfold segK at q4;split at q4
         ·rename_i hc
          rw [Bool.and_eq_true] at hc;exact hc.2
         ·cases q4
        have hN2 : qiX ns σ1 (h ++ Hs) s1.H (rest ++ m) := fun x hx d hd => ⟨(q5 x hx d hd).1, fun k b hk => (q5 x hx d hd).2 k b (qlV hS.sh hge k b hk)⟩
        obtain ⟨e2, h2, c2, σ2, s2, p1, p2, p3, p4, p5⟩ := ih ρ Es Hs rest _ h c K r hK hS2 (fun x hx d hd => by rw [q3]; exact hmem x (by simp [hx]) d hd) (fun x hx => hnm2 x (by simp [hx])) m (nd_app hnd) hN2;refine ⟨e2, h2, c2, σ2, s2, ?_, p2, p3.trans q3, p4, p5⟩;rw [hops, qiJ, qhG, q1];exact p1
       split at hK
       ·split at hK
        ·rename_i a b ha hb
         cases ht : t with
         | true => rw [ht] at hK; exact both true a ht ha hK
         | false => rw [ht] at hK; exact both false b ht hb hK
        ·cases hK
       ·obtain ⟨v, hv, hK⟩ := qi9 hK
        rcases qlO hv with ⟨h1, h2⟩ | ⟨h1, h2⟩
        ·exact both true v h1 h2 hK
        ·exact both false v h1 h2 hK
      ·exact split2 hK
     ·exact split2 hK
    ·cases hK
theorem zs8 {X : Cx} {inl : Inl} (hC : qsD true X C) (hns : ns ≠ []) {ρ : Type} {Es : qd9} {Hs : HpT} {ops : List TIns} {e : qd9} {h : HpT} {c : Nat} {K : KT ρ} {r : ρ} (hK : exD X inl ρ Es Hs ops e h c K = some r) {σ : Nat->Option Id} {s : St} {R : List (TV × AV)} (hS : S9 σ (e ++ Es) (h ++ Hs) c s R)
  (hd : ∀ i ∈ ops, ∀ d, i.i.dst = some d->d < s.env.n) (hnm : ∀ i ∈ ops, qfX i = true) (hnd : ND ops) (hN : qiX ns σ (h ++ Hs) s.H ops) :
  ∃ e' h' c' σ' s' A', run C ns (qf8 ops) s = some s'/\zs0 s'.H A'/\S9 σ' (e' ++ Es) (h' ++ Hs) c' ⟨s'.env, A'⟩ R/\s'.env.n = s.env.n/\K e' h' c' = some r := by
 unfold exD at hK;obtain ⟨e', h', c', σ', s', q1, q2, q3, q4, _⟩ := qcU hC hns 2000 ρ Es Hs ops e h c K r hK hS hd hnm [] (by rwa [List.append_nil]) (by rwa [List.append_nil]);exact ⟨e', h', c', σ', s', s'.H, q1, .refl _, q2, q3, q4⟩
end
def qbU (σ : Nat->Option Id) (H : HpT) (l : List TV) (ys : List AV) : Prop := ys.length = l.length/\∀ (j : Nat) x y, l[j]? = some x->ys[j]? = some y->VRm σ H x y
section
variable {σ : Nat->Option Id} {H : HpT}
theorem qbU.nil : qbU σ H [] [] := ⟨rfl, by simp⟩
theorem qbU.cons {x : TV} {y : AV} {l : List TV} {ys : List AV} (h : VRm σ H x y) (h' : qbU σ H l ys) : qbU σ H (x :: l) (y :: ys) := by
 refine ⟨by simp [h'.1], fun j a b h1 h2 => ?_⟩;cases j with
 | zero => simp at h1 h2; subst h1; subst h2; exact h
 | succ j => simp at h1 h2; exact h'.2 j a b h1 h2
theorem qbU.cons_inv {x : TV} {l : List TV} {ys : List AV} (h : qbU σ H (x :: l) ys) : ∃ y ys', ys = y :: ys'/\VRm σ H x y/\qbU σ H l ys' := by
 obtain ⟨hl, hr⟩ := h;cases ys with
 | nil => simp at hl
 | cons y ys => exact ⟨y, ys, rfl, hr 0 x y rfl rfl, by simpa using hl, fun j a b h1 h2 => hr (j + 1) a b (by simpa using h1) (by simpa using h2)⟩
theorem qbU.nil_inv {ys : List AV} (h : qbU σ H [] ys) : ys = [] := List.eq_nil_of_length_eq_zero (by simpa using h.1)
theorem qbU.of {l : List TV} {ys : List AV} (h : VRs σ H l ys) : qbU σ H l ys := ⟨h.1, fun j x y h1 h2 => .inl (h.2 j x y h1 h2)⟩
theorem qbU.append {l m : List TV} {ys zs : List AV} (h : qbU σ H l ys) (h' : qbU σ H m zs) : qbU σ H (l ++ m) (ys ++ zs) := by
 induction l generalizing ys with
 | nil => cases h.nil_inv; exact h'
 | cons x l ih =>
  obtain ⟨y, ys, rfl, h1, h2⟩ := h.cons_inv;exact .cons h1 (ih h2)
theorem qbU.take {l : List TV} {ys : List AV} (h : qbU σ H l ys) (n : Nat) : qbU σ H (l.take n) (ys.take n) := by
 refine ⟨by simp [h.1], fun j a b h1 h2 => ?_⟩;rw [List.getElem?_take] at h1 h2;split at h1
 ·rename_i hj
  rw [if_pos hj] at h2;exact h.2 j a b h1 h2
 ·cases h1
theorem qbU.drop {l : List TV} {ys : List AV} (h : qbU σ H l ys) (n : Nat) : qbU σ H (l.drop n) (ys.drop n) :=
 ⟨by simp [h.1], fun j a b h1 h2 => h.2 (n + j) a b (by simpa using h1) (by simpa using h2)⟩
end
theorem VRm.as {σ σ2 : Nat->Option Id} {H H2 : HpT} {x x' : TV} {y : AV} (h : VRm σ H x y) (hu : x' ≠ .undef) (f : ∀ z, VR σ H x z->VR σ2 H2 x' z) : VRm σ2 H2 x' y := by
 rcases h with h | ⟨z, e, h, _⟩
 ·exact .inl (f _ h)
 ·exact .inr ⟨z, e, f _ h, hu⟩
def TyOk (σ : Nat->Option Id) (hh : HpT) (y : AV) : (ty : STy)->El ty.sh->List Nat->Prop
 | .v s, a, ids => ids = []/\∀ σ2 H2, VRm σ2 H2 (one1 s a) y
 | .r s, a, ids => s.fine = true/\∃ src : Option Nat, ids = src.toList/\(∀ i, src = some i->qa0 hh i = some (.row s a true))/\(src = none->a = [])/\∀ σ2 H2 ck, qa0 H2 ck = some (.row s a true)->σ2 ck = src.bind σ->VRm σ2 H2 (.own ck) y
theorem ty1K_rel {σ : Nat->Option Id} {H hh : HpT} (hhh : ∀ i b, qa0 hh i = some b->qa0 H i = some b) {ρ : Type} {A : Hp} (hB : BRs σ H A) {ty : STy} {x : TV} {y : AV} (hv : VRm σ H x y) {K : El ty.sh->List Nat->Option ρ} {r : ρ} (hK : ty1K hh ty x K = some r) :
  ∃ a ids, K a ids = some r/\TyOk σ hh y ty a ids := by
 cases ty with
 | v s =>
  cases s with
  | bool =>
   simp only [ty1K] at hK;split at hK
   ·rename_i b hb
    refine ⟨b, [], hK, rfl, fun σ2 H2 => hv.as (by simp [one1]) fun z hz => ?_⟩;rw [qu7 hz hb]; exact .d _ rfl
   ·cases hK
  | int k =>
   simp only [ty1K] at hK;split at hK
   ·rename_i k' n
    split at hK
    ·rename_i hk _
     subst hk;refine ⟨n, [], hK, rfl, fun σ2 H2 => hv.as (by simp [one1]) fun z hz => ?_⟩;rw [hz.d_inv]; exact .d _ rfl
    ·cases hK
   ·cases hK
  | str =>
   simp only [ty1K] at hK;split at hK
   ·rename_i b hb
    refine ⟨b, [], hK, rfl, fun σ2 H2 => hv.as (by simp [one1]) fun z hz => ?_⟩;rw [qeL hz hb]; exact .d _ rfl
   ·cases hK
  | ptr s => cases hK
  | nil => cases hK
  | cons a b => cases hK
  | slice n s =>
   simp only [ty1K] at hK;split at hK
   ·rename_i s' l
    split at hK
    ·rename_i hh _
     obtain ⟨hh⟩ := hh;subst hh;rw [zh3] at hK;refine ⟨l, [], hK, rfl, fun σ2 H2 => hv.as (by simp [one1]) fun z hz => ?_⟩;cases hz with
     | sl _ _ k hf hk => exact .sl _ _ k hf hk
     | sln _ k hf => exact .sln _ k hf
    ·cases hK
   ·split at hK
    ·rename_i hf
     refine ⟨[], [], hK, rfl, fun σ2 H2 => hv.as (by simp [one1]) fun z hz => ?_⟩;cases hz with
     | nil k => exact .sln _ k hf
    ·cases hK
   ·cases hK
 | r s =>
  simp only [ty1K] at hK;split at hK
  ·rename_i i
   split at hK
   ·rename_i s' l hi
    split at hK
    ·rename_i he _
     obtain ⟨he⟩ := he;subst he;rw [zh3] at hK;have hb := hB i _ (hhh i _ hi);refine ⟨l, [i], hK, hb.fine, some i, rfl, fun j hj => by cases hj; exact hi, by simp, fun σ2 H2 ck h1 h2 => hv.as (by simp) fun z hz => ?_⟩;rcases hz.own_inv (hhh i _ hi) with ⟨id, e1, rfl⟩ | ⟨e1, rfl, k, rfl⟩
     ·exact .own ck id _ l true h1 (h2.trans e1)
     ·exact .ownN ck _ _ true k h1 (h2.trans e1) rfl
    ·cases hK
   ·cases hK
  ·split at hK
   ·rename_i hf
    refine ⟨[], [], hK, hf, none, rfl, by simp, fun _ => rfl, fun σ2 H2 ck h1 h2 => hv.as (by simp) fun z hz => ?_⟩;cases hz with
    | nil k => exact .ownN ck _ _ true k h1 h2 rfl
   ·cases hK
  ·cases hK
structure Rows (hh : HpT) (src : List (Option Nat)) (c : Nat) (hr : HpT) : Prop where
 some : ∀ i b, qa0 hr i = .some b->∃ (k : Nat) (s : Sh) (l : List (El s)) (o : Option Nat), i = c + k/\src[k]? = .some o/\b = .row s l true/\s.fine = true/\(∀ i0, o = .some i0->qa0 hh i0 = .some (.row s l true))/\(o = none->l = [])
 all : ∀ k, k < src.length->∃ b, qa0 hr (c + k) = .some b
theorem zb0 {σ : Nat->Option Id} {H hh : HpT} (hhh : ∀ i b, qa0 hh i = some b->qa0 H i = some b) {ρ : Type} {A : Hp} (hB : BRs σ H A) : ∀ (tys : List STy) {xs : List TV} {ys : List AV} {K : El (qk3 (qy3 tys))->List Nat->Option ρ} {r : ρ}, qbU σ H xs ys->tysK hh tys xs K = some r →
  ∃ v src, K v (src.filterMap id) = some r/\∀ c cells hr c1, mkC tys v c = (cells, hr, c1)->c1 = c + src.length/\Rows hh src c hr/\∀ σ2 H2, (∀ i b, qa0 hr i = some b->qa0 H2 i = some b)->(∀ (k : Nat) o, src[k]? = some o->σ2 (c + k) = o.bind σ)->qbU σ2 H2 cells ys
 | [], xs, ys, K, r, h, hK => by
  unfold tysK at hK;split at hK
  ·cases h.nil_inv
   refine ⟨(), [], hK, fun c cells hr c1 hm => ?_⟩;simp only [mkC, Prod.mk.injEq] at hm;obtain ⟨rfl, rfl, rfl⟩ := hm;exact ⟨rfl, ⟨(fun i b hi => by cases hi), (fun k hk => by simp at hk)⟩, fun _ _ _ _ => .nil⟩
  ·cases hK
 | ty :: l, xs, ys, K, r, h, hK => by
  unfold tysK at hK;split at hK
  ·rename_i x xs
   obtain ⟨y, ys, rfl, h1, h2⟩ := h.cons_inv;obtain ⟨a, ids, hK, ha⟩ := ty1K_rel hhh hB h1 hK;obtain ⟨v, src, hK, hv⟩ := zb0 hhh hB l h2 hK;cases ty with
   | v s =>
    obtain ⟨rfl, ha⟩ := ha;refine ⟨(a, v), src, hK, fun c cells hr c1 hm => ?_⟩;simp only [mkC] at hm;cases hq : mkC l v c with
    | mk m p =>
     obtain ⟨h', c'⟩ := p;rw [hq] at hm;simp only [Prod.mk.injEq] at hm;obtain ⟨rfl, rfl, rfl⟩ := hm;obtain ⟨e1, e2, e3⟩ := hv c m h' c' hq;exact ⟨e1, e2, fun σ2 H2 q1 q2 => .cons (ha σ2 H2) (e3 σ2 H2 q1 q2)⟩
   | r s =>
    obtain ⟨hf, o, rfl, ho1, ho2, ha⟩ := ha;refine ⟨(a, v), o :: src, by cases o <;> exact hK, fun c cells hr c1 hm => ?_⟩;simp only [mkC] at hm;cases hq : mkC l v (c + 1) with
    | mk m p =>
     obtain ⟨h', c'⟩ := p;rw [hq] at hm;simp only [Prod.mk.injEq] at hm;obtain ⟨rfl, rfl, rfl⟩ := hm;obtain ⟨e1, e2, e3⟩ := hv (c + 1) m h' c' hq;refine ⟨by rw [e1, List.length_cons]; omega, ⟨fun i b hi => ?_, fun k hk => ?_⟩, fun σ2 H2 q1 q2 => ?_⟩
     ·rw [qc2] at hi
      split at hi
      ·rename_i e
       cases hi;exact ⟨0, s, a, o, e, rfl, rfl, hf, ho1, ho2⟩
      ·obtain ⟨k, s', l', o', g1, g2, g3⟩ := e2.some i b hi
       exact ⟨k + 1, s', l', o', by omega, by simpa using g2, g3⟩
     ·cases k with
      | zero => exact ⟨.row s a true, by rw [qc2, if_pos (Nat.add_zero c)]⟩
      | succ k =>
       obtain ⟨b, hb⟩ := e2.all k (by simpa using hk);exact ⟨b, by rw [qc2, if_neg (by omega), ← hb]; congr 1; omega⟩
     ·have hnew : ∀ i b, qa0 h' i = some b->i ≠ c := by
       intro i b hi;obtain ⟨k, _, _, _, g1, _⟩ := e2.some i b hi;omega
      refine .cons (ha σ2 H2 c (q1 c _ (by rw [qc2, if_pos rfl])) (q2 0 o rfl)) (e3 σ2 H2 (fun i b hi => q1 i b (by rw [qc2, if_neg (hnew i b hi)]; exact hi)) (fun k o' hk => ?_));rw [show c + 1 + k = c + (k + 1) by omega];exact q2 (k + 1) o' (by simpa using hk)
  ·cases hK
theorem zs9 {σ : Nat->Option Id} {H hh : HpT} (hhh : ∀ i b, qa0 hh i = some b->qa0 H i = some b) {x : TV} {y : AV} {C0 C : List TV} {Y : List AV} {k : Nat} (ha : zr3 hh x (C0.getD k .junk) = true) (hx : VRm σ H x y) (hC0 : qbU σ H C0 Y)
  {σ2 : Nat->Option Id} {H2 : HpT} (hC : qbU σ2 H2 C Y) : VRm σ2 H2 (ownT (C.getD k .junk)) y := by
 unfold zr3 at ha;split at ha
 ·rename_i i j hj
  rw [Bool.and_eq_true] at ha;obtain ⟨hij, hr⟩ := ha;have hij := qb2 hij;subst hij
  obtain ⟨s, l, w, hi⟩ : ∃ s l w, qa0 hh i = some (.row s l w) := by
   split at hr
   ·exact ⟨_, _, _, by assumption⟩
   ·cases hr
  have hi := hhh _ _ hi
  have hk : k < C0.length := by
   apply Classical.byContradiction
   intro hk;rw [List.getD_eq_getElem?_getD, List.getElem?_eq_none (by omega)] at hj;cases hj
  have hk1 : k < Y.length := by rw [hC0.1]; exact hk
  have hk2 : k < C.length := by rw [← hC.1]; exact hk1
  have e0 : C0[k]? = some (.own i) := by
   rw [List.getD_eq_getElem?_getD, List.getElem?_eq_getElem hk] at hj;rw [List.getElem?_eq_getElem hk];exact congrArg some hj
  have r0 := hC0.2 k _ _ e0 (List.getElem?_eq_getElem hk1);have r1 := hC.2 k _ _ (List.getElem?_eq_getElem hk2) (List.getElem?_eq_getElem hk1);rw [List.getD_eq_getElem?_getD, List.getElem?_eq_getElem hk2, Option.getD_some];generalize Y[k] = y0 at r0 r1;generalize C[k] = c at r1
  -- what rows are
  have own : ∀ {z : AV}, VRm σ H (.own i) z->∃ z0, (z = z0\/z = .may true z0)/\VR σ H (.own i) z0 := by
   intro z hz;rcases hz with h | ⟨z0, h1, h2, _⟩
   ·exact ⟨z, .inl rfl, h⟩
   ·exact ⟨z0, .inr h1, h2⟩
  obtain ⟨z1, f1, v1⟩ := own hx;obtain ⟨z0, f0, v0⟩ := own r0;have junk : VRm σ2 H2 .junk y := .inl (.junk _);cases c with
  | own i' =>
   show VRm σ2 H2 (.own i') y
   have hv : VR σ2 H2 (.own i') z0 := by
    rcases r1 with h | ⟨z, h1, h2, _⟩
    ·rcases f0 with rfl | rfl
     ·exact h
     ·cases h
    ·rcases f0 with rfl | rfl
     ·subst h1
      cases v0
     ·cases h1; exact h2
   have hv1 : VR σ2 H2 (.own i') z1 := by
    rcases v0.own_inv hi with ⟨id, e1, rfl⟩ | ⟨e1, rfl, k, rfl⟩
    ·rcases v1.own_inv hi with ⟨id', e2, rfl⟩ | ⟨e2, _, _, _⟩
     ·rw [e1] at e2; cases e2; exact hv
     ·rw [e1] at e2; cases e2
    ·rcases v1.own_inv hi with ⟨id', e2, _⟩ | ⟨_, _, k', rfl⟩
     ·rw [e1] at e2; cases e2
     ·cases hv with
      | ownN _ s l w _ h hi hl => exact .ownN _ s l w _ h hi hl
      | ownDN _ _ h => exact .ownDN _ _ h
   rcases f1 with rfl | rfl
   ·exact .inl hv1
   ·exact .inr ⟨_, rfl, hv1, by simp⟩
  | _ => exact junk
 ·cases ha
theorem qbV {σ : Nat->Option Id} {E : qd9} {H hh : HpT} {c0 : Nat} {s : St} {R : List (TV × AV)} (hS : S9 σ E H c0 s R) (hhh : ∀ i b, qa0 hh i = some b->qa0 H i = some b) : ∀ {rs : List RSl} {cs : List TV}, qqQ E hh rs = some cs →
  ∃ ys, qbU σ H cs ys/\(∀ i ∈ qb6 rs, ∃ cells, qa0 hh i = some (.box cells))/\∀ C0 Y, qbU σ H C0 Y->alB E hh C0 rs = true->∀ σ2 H2 cells C e' hb, qbU σ2 H2 cells ys->qbU σ2 H2 C Y->qjN C rs cells = (e', hb) →
   qe9 e' = qe4 rs/\qv5 hb = qb6 rs/\(∀ t ∈ qe9 e', VRm σ2 H2 (qa5 e' t) (look s.env.l t))/\∀ i b, qa0 hb i = some b->∃ cs id zs, b = .box cs/\σ i = some id/\s.H id = some (.box zs)/\VRs σ2 H2 cs zs/\zs.all AV.single = true
 | [], cs, h => by
  cases h;refine ⟨[], .nil, by simp [qb6], fun C0 Y _ _ σ2 H2 cells C e' hb _ _ hl => ?_⟩;simp only [qjN, Prod.mk.injEq] at hl;obtain ⟨rfl, rfl⟩ := hl;exact ⟨rfl, rfl, by simp [qe9], fun i b hi => by cases hi⟩
 | .t n ty :: rs, cs, h => by
  unfold qqQ at h;split at h
  ·rename_i m hm
   cases h;obtain ⟨ys, h1, h2, h3⟩ := qbV hS hhh hm
   have hn : VRm σ H (noLit (qa5 E n)) (look s.env.l n) := by
    have := hS.env n;rcases this with h | ⟨z, e, h, hu⟩
    ·exact .inl h.noLit
    ·refine .inr ⟨z, e, h.noLit, ?_⟩
     generalize qa5 E n = x at hu;cases x <;> simp_all [Go.AI.noLit]
   refine ⟨look s.env.l n :: ys, .cons hn h1, h2, fun C0 Y hC0 hal σ2 H2 cells C e' hb hc hC hl => ?_⟩;have hal : alB E hh C0 rs = true := hal;cases cells with
   | nil => simp [qbU] at hc
   | cons x cells =>
    obtain ⟨y, ys', he, hv, hc⟩ := hc.cons_inv;cases he;simp only [qjN] at hl;cases hq : qjN C rs cells with
    | mk e2 hb2 =>
     rw [hq] at hl;simp only [Prod.mk.injEq] at hl;obtain ⟨rfl, rfl⟩ := hl;obtain ⟨g1, g2, g3, g4⟩ := h3 C0 Y hC0 hal σ2 H2 cells C e2 hb2 hc hC hq;refine ⟨by simp [qe9, qe4, g1], g2, fun t ht => ?_, g4⟩;rw [qb7];split
     ·rename_i e; subst e; exact hv
     ·rename_i e
      simp only [qe9, List.mem_cons] at ht;exact g3 t (ht.resolve_left e)
  ·cases h
 | .b i tys :: rs, cs, h => by
  unfold qqQ at h;split at h
  ·rename_i bc m hb hm
   split at h
   ·rename_i hlen
    have hlen := qb2 hlen;cases h;obtain ⟨ys, h1, h2, h3⟩ := qbV hS hhh hm;obtain ⟨id, zs, b1, b2, b3, b4⟩ := hS.sh.blk i _ (hhh i _ hb);refine ⟨zs ++ ys, (qbU.of b3).append h1, fun j hj => ?_, fun C0 Y hC0 hal σ2 H2 cells C e' hb' hc hC hl => ?_⟩
    ·simp only [qb6, List.mem_cons] at hj
     rcases hj with rfl | hj
     ·exact ⟨_, hb⟩
     ·exact h2 j hj
    ·have hal : alB E hh C0 rs = true := hal
     simp only [qjN] at hl;cases hq : qjN C rs (cells.drop tys.length) with
     | mk e2 hb2 =>
      rw [hq] at hl;simp only [Prod.mk.injEq] at hl;obtain ⟨rfl, rfl⟩ := hl;have hz : zs.length = tys.length := by rw [b3.1, hlen]
      have hd := hc.drop tys.length;rw [← hz, List.drop_left, hz] at hd;obtain ⟨g1, g2, g3, g4⟩ := h3 C0 Y hC0 hal σ2 H2 _ C e2 hb2 hd hC hq;refine ⟨g1, by simp [qv5, qb6, g2], g3, fun j b hj => ?_⟩;rw [qc2] at hj;split at hj
      ·rename_i e
       subst e;cases hj;have ht := hc.take tys.length;rw [← hz, List.take_left, hz] at ht;refine ⟨_, id, zs, rfl, b1, b2, ⟨ht.1, fun k x y q1 q2 => ?_⟩, b4⟩;rcases ht.2 k x y q1 q2 with h | ⟨z, e, h, _⟩
       ·exact h
       ·have := List.all_eq_true.1 b4 y (List.mem_of_getElem? q2)
        subst e;simp [AV.single] at this
      ·exact g4 j b hj
   ·cases h
  ·cases h
 | .a n k :: rs, cs, h => by
  unfold qqQ at h;obtain ⟨ys, h1, h2, h3⟩ := qbV hS hhh h;refine ⟨ys, h1, h2, fun C0 Y hC0 hal σ2 H2 cells C e' hb hc hC hl => ?_⟩;simp only [alB, Bool.and_eq_true] at hal;obtain ⟨ha1, hal⟩ := hal;simp only [qjN] at hl;cases hq : qjN C rs cells with
  | mk e2 hb2 =>
   rw [hq] at hl;simp only [Prod.mk.injEq] at hl;obtain ⟨rfl, rfl⟩ := hl;obtain ⟨g1, g2, g3, g4⟩ := h3 C0 Y hC0 hal σ2 H2 cells C e2 hb2 hc hC hq;refine ⟨by simp [qe9, qe4, g1], g2, fun t ht => ?_, g4⟩;rw [qb7];split
   ·rename_i e
    subst e;exact zs9 hhh ha1 (hS.env _) hC0 hC
   ·rename_i e
    simp only [qe9, List.mem_cons] at ht;exact g3 t (ht.resolve_left e)
theorem zt0 {h : HpT} {i : Nat} (hi : i ∈ qv5 h) : ∃ b, qa0 h i = some b := by
 induction h with
 | nil => cases hi
 | cons p h ih =>
  obtain ⟨k, b⟩ := p;simp only [qv5, List.mem_cons] at hi;rw [qc2];by_cases e : i = k
  ·exact ⟨b, if_pos e⟩
  ·rw [if_neg e]; exact ih (hi.resolve_left e)
theorem quC {h : HpT} {i : Nat} {b : TB} (hi : qa0 h i = some b) : i ∈ qv5 h := by
 apply Classical.byContradiction
 intro hn;rw [qu1 hn] at hi;cases hi
theorem qeN (l : List Nat) (i : Nat) : qa0 (qeI l) i = if i ∈ l then some .dead else none := by
 induction l with
 | nil => rfl
 | cons a l ih =>
  simp only [qeI, qc2, ih, List.mem_cons];by_cases e : i = a
  ·simp [e]
  ·simp [e]
theorem qoY : ∀ {l : List Nat}, qzZ l = true->l.Nodup
 | [], _ => List.nodup_nil
 | i :: l, h => by
  simp only [qzZ, Bool.and_eq_true, Bool.not_eq_true'] at h;exact List.nodup_cons.2 ⟨by simpa using h.1, qoY h.2⟩
theorem qqX {l : List (Option Nat)} (hn : (l.filterMap id).Nodup) : ∀ {k j : Nat} {i : Nat}, l[k]? = some (some i)->l[j]? = some (some i)->k = j := by
 induction l with
 | nil => intro k j i h; simp at h
 | cons o l ih =>
  intro k j i h1 h2
  have hn' : (l.filterMap id).Nodup := by
   cases o with
   | none => simpa using hn
   | some x => simp only [List.filterMap_cons, id] at hn; exact (List.nodup_cons.1 hn).2
  have hx : ∀ n : Nat, o = some i->l[n]? = some (some i)->False := by
   intro n ho hl;subst ho;simp only [List.filterMap_cons, id] at hn;exact (List.nodup_cons.1 hn).1 (List.mem_filterMap.2 ⟨_, List.mem_of_getElem? hl, rfl⟩)
  cases k with
  | zero =>
   cases j with
   | zero => rfl
   | succ j => simp at h1 h2; exact (hx j h1 h2).elim
  | succ k =>
   cases j with
   | zero => simp at h1 h2; exact (hx k h2 h1).elim
   | succ j => simp at h1 h2; rw [ih hn' h1 h2]
structure Taken (rs : List RSl) (σ : Nat->Option Id) (H hh : HpT) (s : St) (v : El (qk3 (qy3 (qz5 rs)))) (src : List (Option Nat)) (ys : List AV) : Prop where
 rows : ∀ c cells hr c1, mkC (qz5 rs) v c = (cells, hr, c1)->c1 = c + src.length/\Rows hh src c hr/\∀ σ2 H2, (∀ i b, qa0 hr i = some b->qa0 H2 i = some b)->(∀ (k : Nat) o, src[k]? = some o->σ2 (c + k) = o.bind σ)->qbU σ2 H2 cells ys
 lay : ∀ σ2 H2 cells e' hb, qbU σ2 H2 cells ys->qjN cells rs cells = (e', hb)->qe9 e' = qe4 rs/\qv5 hb = qb6 rs/\(∀ t ∈ qe9 e', VRm σ2 H2 (qa5 e' t) (look s.env.l t))/\∀ i b, qa0 hb i = some b->∃ cs id zs, b = .box cs/\σ i = some id/\s.H id = some (.box zs)/\VRs σ2 H2 cs zs/\zs.all AV.single = true
 box : ∀ i ∈ qb6 rs, ∃ cells, qa0 hh i = some (.box cells)
 nd : (qb6 rs ++ src.filterMap id).Nodup
theorem quD {σ : Nat->Option Id} {E : qd9} {H hh : HpT} {c0 : Nat} {s : St} {R : List (TV × AV)} (hS : S9 σ E H c0 s R) (hhh : ∀ i b, qa0 hh i = some b->qa0 H i = some b) {rs : List RSl} {ρ : Type} {K : El (qk3 (qy3 (qz5 rs)))->List Nat->Option ρ} {r : ρ} (hK : takeK rs E hh K = some r) :
  ∃ v src ys, K v (src.filterMap id) = some r/\Taken rs σ H hh s v src ys := by
 unfold takeK at hK;split at hK
 ·rename_i cs hcs
  split at hK
  ·rename_i hal
   rw [qeK] at hK;obtain ⟨ys, h1, h2, h3⟩ := qbV hS hhh hcs;obtain ⟨v, src, hK, hv⟩ := zb0 hhh hS.sh.blk (qz5 rs) h1 hK;split at hK
   ·rename_i hnd
    exact ⟨v, src, ys, hK, hv, fun σ2 H2 cells e' hb q1 q2 => h3 cs ys h1 hal σ2 H2 cells cells e' hb q1 q1 q2, h2, qoY hnd⟩
   ·cases hK
  ·cases hK
 ·cases hK
theorem canon {σ0 : Nat->Option Id} {E0 : qd9} {H0 : HpT} {c0 : Nat} {s0 : St} {R : List (TV × AV)} (h0 : S9 σ0 E0 H0 c0 s0 R) {σ1 : Nat->Option Id} {E' : qd9} {H1 : HpT} {c2 : Nat} {s1 : St} (h1 : S9 σ1 E' H1 c2 s1 R) {rs : List RSl} {ids0 : List Nat} {Hst hh : HpT}
  (hbox0 : ∀ i ∈ qb6 rs ++ ids0, (qa0 H0 i).isSome = true) (hst : ∀ i b, qa0 Hst i = some b->i ∉ qb6 rs ++ ids0/\qa0 H0 i = some b) (hst2 : ∀ i b, i ∉ qb6 rs ++ ids0->qa0 H0 i = some b->qa0 Hst i = some b/\qa0 H1 i = some b) (hhh : ∀ i b, qa0 hh i = some b->qa0 H1 i = some b)
  (hnb : ∀ i ∈ ids0, ∀ cells, qa0 H1 i ≠ some (.box cells)) {v : El (qk3 (qy3 (qz5 rs)))} {src : List (Option Nat)} {ys : List AV} (hT : Taken rs σ1 H1 hh s1 v src ys) (hdyn : ∀ i ∈ src.filterMap id, qa0 Hst i = none)
  {cells : List TV} {hr hb : HpT} {c1 : Nat} {e' : qd9} (hm : mkC (qz5 rs) v c0 = (cells, hr, c1)) (hl : qjN cells rs cells = (e', hb)) {H2 : HpT} (hH2 : ∀ i, qa0 H2 i = qa0 (hb ++ (hr ++ (qeI ids0 ++ Hst))) i) :
  qe9 e' = qe4 rs/\∃ σ2, ∀ E2, (∀ t, (t ∈ qe9 e'/\qa5 E2 t = qa5 e' t)\/qa5 E2 t = .junk\/(qa5 E2 t = qa5 E' t/\qa5 E2 t = qa5 E0 t))->S9 σ2 E2 H2 c1 s1 R := by
 obtain ⟨hc1, hrows, hcells⟩ := hT.rows c0 cells hr c1 hm
 let σ2 : Nat->Option Id := fun j => if c0<=j/\j < c0 + src.length then ((src[j - c0]?).join).bind σ1 else if (ids0.elem j && (qa0 H1 j).isNone) = true then none else σ1 j
 have hlt : ∀ i b, qa0 H0 i = some b->i < c0 := h0.sh.cnt
 have hltd : ∀ i ∈ qb6 rs ++ ids0, i < c0 := by
  intro i hi;obtain ⟨b, hb⟩ := Option.isSome_iff_exists.1 (hbox0 i hi);exact hlt i b hb
 have hσlow : ∀ i b, i < c0->qa0 H1 i = some b->σ2 i = σ1 i := by
  intro i b hi hb;have h2 : ¬ (c0<=i/\i < c0 + src.length) := by omega
  simp only [σ2];rw [if_neg h2, if_neg (by rw [hb]; simp)]
 have hσrow : ∀ (k : Nat) o, src[k]? = some o->σ2 (c0 + k) = o.bind σ1 := by
  intro k o hk;have := (List.getElem?_eq_some_iff.1 hk).1;have h2 : c0<=c0 + k/\c0 + k < c0 + src.length := by omega
  have h3 : c0 + k - c0 = k := by omega
  simp only [σ2];rw [if_pos h2, h3, hk];rfl
 have hrlow : ∀ i, i < c0->qa0 hr i = none := by
  intro i hi;cases hq : qa0 hr i with
  | none => rfl
  | some b =>
   obtain ⟨k, _, _, _, e, _⟩ := hrows.some i b hq;omega
 obtain ⟨ke, kb, _, _⟩ := hT.lay σ2 hr cells e' hb (hcells σ2 hr (fun _ _ h => h) hσrow) hl
 -- where the blocks are
 have lookB : ∀ i, i ∈ qb6 rs->∃ b, qa0 hb i = some b/\qa0 H2 i = some b := by
  intro i hi;rw [← kb] at hi;obtain ⟨b, hb'⟩ := zt0 hi;exact ⟨b, hb', by rw [hH2, qa1, hb']; rfl⟩
 have notB : ∀ i, i ∉ qb6 rs->qa0 hb i = none := fun i hi => qu1 (by rw [kb]; exact hi)
 have lookR : ∀ i b, qa0 hr i = some b->qa0 H2 i = some b := by
  intro i b hi;obtain ⟨k, _, _, _, e, _⟩ := hrows.some i b hi;rw [hH2, qa1, qa1, hi, notB i (fun hm' => by have := hltd i (by simp [hm']); omega)];rfl
 have lookD : ∀ i, i ∈ ids0->i ∉ qb6 rs->qa0 H2 i = some .dead := by
  intro i hi hn;rw [hH2, qa1, notB i hn, qa1, hrlow i (hltd i (by simp [hi])), qa1, qeN, if_pos hi];rfl
 have lookS : ∀ i, i < c0->i ∉ qb6 rs ++ ids0->qa0 H2 i = qa0 Hst i := by
  intro i hi hn;simp only [List.mem_append, not_or] at hn;rw [hH2, qa1, notB i hn.1, qa1, hrlow i hi, qa1, qeN, if_neg hn.2];rfl
 -- what a block is that is there
 have look2 : ∀ i b, qa0 H2 i = some b->(i ∈ qb6 rs/\qa0 hb i = some b)\/qa0 hr i = some b\/(i ∈ ids0/\b = .dead)\/qa0 Hst i = some b := by
  intro i b hi;by_cases c1' : i ∈ qb6 rs
  ·obtain ⟨b', q1, q2⟩ := lookB i c1'
   rw [hi] at q2;cases q2;exact .inl ⟨c1', q1⟩
  ·right
   rw [hH2, qa1, notB i c1', qa1] at hi;cases hq : qa0 hr i with
   | some b' => rw [hq] at hi; cases hi; exact .inl rfl
   | none =>
    right;rw [hq, qa1, qeN] at hi;by_cases c2' : i ∈ ids0
    ·rw [if_pos c2'] at hi; cases hi; exact .inl ⟨c2', rfl⟩
    ·rw [if_neg c2'] at hi; exact .inr hi
 have hcell := hcells σ2 H2 lookR hσrow;obtain ⟨_, _, ht, hbx⟩ := hT.lay σ2 H2 cells e' hb hcell hl
 have hboxH1 : ∀ i ∈ qb6 rs, ∃ cs, qa0 H1 i = some (.box cs) := by
  intro i hi;obtain ⟨cs, h⟩ := hT.box i hi;exact ⟨cs, hhh i _ h⟩
 -- what was there goes on
 have G : ∀ i b, (qa0 H0 i).isSome = true->qa0 H1 i = some b->σ2 i = σ1 i/\∃ b', qa0 H2 i = some b'/\Cp b b' := by
  intro i b hi hb1;obtain ⟨b0, hb0⟩ := Option.isSome_iff_exists.1 hi;have hic := hlt i b0 hb0;refine ⟨hσlow i b hic hb1, ?_⟩;by_cases c1' : i ∈ qb6 rs
  ·obtain ⟨cs, hcs⟩ := hboxH1 i c1'
   rw [hb1] at hcs;cases hcs;obtain ⟨b', q1, q2⟩ := lookB i c1';obtain ⟨cs', _, _, rfl, _⟩ := hbx i b' q1;exact ⟨_, q2, trivial⟩
  ·by_cases c2' : i ∈ ids0
   ·refine ⟨.dead, lookD i c2' c1', ?_⟩
    cases b with
    | box cs => exact absurd hb1 (hnb i c2' cs)
    | row => trivial
    | fns => trivial
    | dead => trivial
   ·have hn : i ∉ qb6 rs ++ ids0 := by simp [c1', c2']
    obtain ⟨q1, q2⟩ := hst2 i b0 hn hb0;rw [hb1] at q2;cases q2;exact ⟨b, by rw [lookS i hic hn]; exact q1, Cp.refl b⟩
 -- a static block
 have stat : ∀ i b, qa0 Hst i = some b->i ∉ qb6 rs ++ ids0/\qa0 H0 i = some b/\qa0 H1 i = some b/\σ2 i = σ1 i := by
  intro i b hi;obtain ⟨q1, q2⟩ := hst i b hi;obtain ⟨_, q3⟩ := hst2 i b q1 q2;exact ⟨q1, q2, q3, hσlow i b (hlt i b q2) q3⟩
 refine ⟨ke, σ2, fun E2 hE => ⟨⟨fun i b hi => ?_, fun i j id hi hj e1 e2 => ?_, fun i b hi => ?_, ?_⟩, fun t => ?_, fun p hp => (h1.rel p hp).via G (h0.rel p hp)⟩⟩
 ·rcases look2 i b hi with ⟨hib, hq⟩ | hq | ⟨hid, rfl⟩ | hq
  ·obtain ⟨cs, id, zs, rfl, e1, e2, e3, e4⟩ := hbx i b hq
   obtain ⟨cs1, hcs1⟩ := hboxH1 i hib;exact ⟨id, zs, (hσlow i _ (hltd i (by simp [hib])) hcs1).trans e1, e2, e3, e4⟩
  ·obtain ⟨k, s, l, o, rfl, ho, rfl, hf, ho1, ho2⟩ := hrows.some i b hq
   have hσ := hσrow k o ho;cases o with
   | none => exact ⟨hf, .inr ⟨hσ, ho2 rfl⟩⟩
   | some i0 =>
    have := h1.sh.blk i0 _ (hhh i0 _ (ho1 i0 rfl));exact ⟨hf, this.2.imp (fun ⟨id, q1, q2⟩ => ⟨id, hσ.trans q1, q2⟩) (fun ⟨q1, q2⟩ => ⟨hσ.trans q1, q2⟩)⟩
  ·trivial
  ·obtain ⟨_, q2, q3, q4⟩ := stat i b hq
   have b0 := h0.sh.blk i b q2;have b1 := h1.sh.blk i b q3;cases b with
   | box cs =>
    obtain ⟨_, ys0, _, _, v0, _⟩ := b0;obtain ⟨id, zs, e1, e2, v1, e3⟩ := b1;refine ⟨id, zs, q4.trans e1, e2, ⟨v1.1, fun j x y p1 p2 => ?_⟩, e3⟩;obtain ⟨y0, p3, p4⟩ := v0.get p1;exact (v1.2 j x y p1 p2).via G p4
   | row s l w =>
    cases w with
    | true => exact ⟨b1.1, b1.2.imp (fun ⟨id, q1, q2⟩ => ⟨id, q4.trans q1, q2⟩) (fun ⟨q1, q2⟩ => ⟨q4.trans q1, q2⟩)⟩
    | false => exact ⟨b1.1, b1.2.imp (fun ⟨id, q1, q2⟩ => ⟨id, q4.trans q1, q2⟩) (fun ⟨q1, q2⟩ => ⟨q4.trans q1, q2⟩)⟩
   | fns s l =>
    obtain ⟨_, ys0, _, _, l0, v0⟩ := b0;obtain ⟨id, ys, e1, e2, l1, v1⟩ := b1;refine ⟨id, ys, q4.trans e1, e2, l1, fun j x y p1 p2 => ⟨(v1 j x y p1 p2).1, fun m u z p3 p4 => ?_⟩⟩;have hj : j < ys0.length := by rw [l0]; exact (List.getElem?_eq_some_iff.1 p1).1
    obtain ⟨y0, p5, p6⟩ := (v0 j x _ p1 (List.getElem?_eq_getElem hj)).get p3;exact ((v1 j x y p1 p2).2 m u z p3 p4).via G p6
   | dead => trivial
 ·-- names are one's own
  have rep : ∀ i, qoV H2 i->σ2 i = some id->∃ i', qoV H1 i'/\σ1 i' = some id/\((i' = i/\(i ∈ qb6 rs\/(qa0 Hst i).isSome = true))\/∃ k, i = c0 + k/\src[k]? = some (some i')) := by
   rintro i ⟨b, hb1, hb2⟩ hs;rcases look2 i b hb1 with ⟨hib, _⟩ | hq | ⟨_, rfl⟩ | hq
   ·obtain ⟨cs1, hcs1⟩ := hboxH1 i hib
    exact ⟨i, ⟨_, hcs1, by simp⟩, (hσlow i _ (hltd i (by simp [hib])) hcs1).symm.trans hs, .inl ⟨rfl, .inl hib⟩⟩
   ·obtain ⟨k, s, l, o, rfl, ho, rfl, hf, ho1, ho2⟩ := hrows.some i b hq
    rw [hσrow k o ho] at hs;cases o with
    | none => cases hs
    | some i0 => exact ⟨i0, ⟨_, hhh i0 _ (ho1 i0 rfl), by simp⟩, hs, .inr ⟨k, rfl, ho⟩⟩
   ·exact absurd rfl hb2
   ·obtain ⟨_, _, q3, q4⟩ := stat i b hq
    exact ⟨i, ⟨b, q3, hb2⟩, q4.symm.trans hs, .inl ⟨rfl, .inr (by rw [hq]; rfl)⟩⟩
  obtain ⟨i', l1, s1', r1⟩ := rep i hi e1;obtain ⟨j', l2, s2', r2⟩ := rep j hj e2;have hij := h1.sh.inj i' j' id l1 l2 s1' s2';subst hij;have hmem : ∀ {k : Nat}, src[k]? = some (some i')->i' ∈ src.filterMap _root_.id := fun hk => List.mem_filterMap.2 ⟨_, List.mem_of_getElem? hk, rfl⟩
  have hsep : ∀ {k : Nat}, src[k]? = some (some i')->¬ (i' ∈ qb6 rs\/(qa0 Hst i').isSome = true) := by
   rintro k hk (h | h)
   ·exact (List.nodup_append.1 hT.nd).2.2 i' h i' (hmem hk) rfl
   ·rw [hdyn i' (hmem hk)] at h; cases h
  rcases r1 with ⟨rfl, q1⟩ | ⟨k, rfl, q1⟩
  ·rcases r2 with ⟨rfl, _⟩ | ⟨k', rfl, q2⟩
   ·rfl
   ·exact absurd q1 (hsep q2)
  ·rcases r2 with ⟨rfl, q2⟩ | ⟨k', rfl, q2⟩
   ·exact absurd q2 (hsep q1)
   ·rw [qqX (List.nodup_append.1 hT.nd).2.1 q1 q2]
 ·rcases look2 i b hi with ⟨hib, _⟩ | hq | ⟨hid, _⟩ | hq
  ·have := hltd i (by simp [hib]); omega
  ·obtain ⟨k, _, _, o, rfl, ho, _⟩ := hrows.some i b hq
   have := (List.getElem?_eq_some_iff.1 ho).1;omega
  ·have := hltd i (by simp [hid]); omega
  ·obtain ⟨_, q2, _, _⟩ := stat i b hq
   have := hlt i b q2; omega
 ·obtain ⟨N, f1, f2⟩ := h1.sh.fresh
  refine ⟨N, f1, fun i b id hi hs => ?_⟩;rcases look2 i b hi with ⟨hib, _⟩ | hq | ⟨hid, _⟩ | hq
  ·obtain ⟨cs1, hcs1⟩ := hboxH1 i hib
   exact f2 i _ id hcs1 ((hσlow i _ (hltd i (by simp [hib])) hcs1).symm.trans hs)
  ·obtain ⟨k, s, l, o, rfl, ho, rfl, hf, ho1, ho2⟩ := hrows.some i b hq
   rw [hσrow k o ho] at hs;cases o with
   | none => cases hs
   | some i0 => exact f2 i0 _ id (hhh i0 _ (ho1 i0 rfl)) hs
  ·have hlow := hltd i (by simp [hid])
   cases hq : qa0 H1 i with
   | some b1 => exact f2 i b1 id hq ((hσlow i b1 hlow hq).symm.trans hs)
   | none =>
    exfalso;have h2 : ¬ (c0<=i/\i < c0 + src.length) := by omega
    simp only [σ2] at hs;rw [if_neg h2, if_pos (by simp [hid, hq])] at hs;cases hs
  ·obtain ⟨_, q2, q3, q4⟩ := stat i b hq
   exact f2 i b id q3 (q4.symm.trans hs)
 ·rcases hE t with ⟨q1, q2⟩ | q | ⟨q1, q2⟩
  ·rw [q2]; exact ht t q1
  ·rw [q]; exact .inl (.junk _)
  ·rw [q2]
   refine VRm.via (σ1 := σ1) (H1 := H1) ?_ G (h0.env t)
   rw [← q2, q1];exact h1.env t
theorem qeO (W : List Nat) (e : qd9) (t : Nat) : t ∈ qe9 (qlM W e) ↔ t ∈ W/\t ∈ qe9 e := by
 induction e with
 | nil => simp [qlM, qe9]
 | cons p e ih =>
  obtain ⟨k, x⟩ := p;unfold qlM;split
  ·rename_i h
   have h : k ∈ W := by simpa using h
   simp only [qe9, List.mem_cons, ih];constructor
   ·rintro (rfl | ⟨h1, h2⟩)
    ·exact ⟨h, .inl rfl⟩
    ·exact ⟨h1, .inr h2⟩
   ·rintro ⟨h1, rfl | h2⟩
    ·exact .inl rfl
    ·exact .inr ⟨h1, h2⟩
  ·rename_i h
   have h : k ∉ W := by simpa using h
   simp only [qe9, List.mem_cons, ih];constructor
   ·rintro ⟨h1, h2⟩; exact ⟨h1, .inr h2⟩
   ·rintro ⟨h1, rfl | h2⟩
    ·exact absurd h1 h
    ·exact ⟨h1, h2⟩
theorem qxE (W : List Nat) (e : qd9) (t : Nat) (ht : t ∈ W) : qa5 (qlM W e) t = qa5 e t := by
 induction e with
 | nil => rfl
 | cons p e ih =>
  obtain ⟨k, x⟩ := p;unfold qlM;split
  ·rw [qb7, qb7, ih]
  ·rename_i h
   have h : k ∉ W := by simpa using h
   rw [qb7, if_neg (fun e : t = k => h (by rw [← e]; exact ht)), ih]
theorem qaQ (W : List Nat) (e : qd9) (t : Nat) : t ∈ qe9 (qk4 W e) ↔ t ∉ W/\t ∈ qe9 e := by
 induction e with
 | nil => simp [qk4, qe9]
 | cons p e ih =>
  obtain ⟨k, x⟩ := p;unfold qk4;split
  ·rename_i h
   have h : k ∈ W := by simpa using h
   simp only [qe9, List.mem_cons, ih];constructor
   ·rintro ⟨h1, h2⟩; exact ⟨h1, .inr h2⟩
   ·rintro ⟨h1, rfl | h2⟩
    ·exact absurd h h1
    ·exact ⟨h1, h2⟩
  ·rename_i h
   have h : k ∉ W := by simpa using h
   simp only [qe9, List.mem_cons, ih];constructor
   ·rintro (rfl | ⟨h1, h2⟩)
    ·exact ⟨h, .inl rfl⟩
    ·exact ⟨h1, .inr h2⟩
   ·rintro ⟨h1, rfl | h2⟩
    ·exact .inl rfl
    ·exact .inr ⟨h1, h2⟩
theorem qq4 (W : List Nat) (e : qd9) (t : Nat) (ht : t ∉ W) : qa5 (qk4 W e) t = qa5 e t := by
 induction e with
 | nil => rfl
 | cons p e ih =>
  obtain ⟨k, x⟩ := p;unfold qk4;split
  ·rename_i h
   have h : k ∈ W := by simpa using h
   rw [qb7, if_neg (fun e : t = k => ht (by rw [e]; exact h)), ih]
  ·rw [qb7, qb7, ih]
theorem qxF (W : List Nat) (e : qd9) (t : Nat) : qa5 (qlM W e ++ qk4 W e) t = qa5 e t := by
 rw [qg5];by_cases ht : t ∈ W
 ·by_cases hk : t ∈ qe9 e
  ·rw [if_pos ((qeO W e t).2 ⟨ht, hk⟩), qxE W e t ht]
  ·rw [if_neg (fun h => hk ((qeO W e t).1 h).2), qm4 (fun h => ((qaQ W e t).1 h).1 ht), qm4 hk]
 ·rw [if_neg (fun h => ht ((qeO W e t).1 h).1), qq4 W e t ht]
theorem qeP (ids : List Nat) (h : HpT) (i : Nat) : qa0 (qaK ids h) i = if i ∈ ids then qa0 h i else none := by
 induction h with
 | nil => simp [qaK, qa0]
 | cons p h ih =>
  obtain ⟨k, b⟩ := p;unfold qaK;split
  ·rename_i hk
   have hk : k ∈ ids := by simpa using hk
   rw [qc2, qc2, ih];by_cases e : i = k
   ·subst e; simp [hk]
   ·simp [e]
  ·rename_i hk
   have hk : k ∉ ids := by simpa using hk
   rw [ih, qc2];by_cases e : i = k
   ·subst e; simp [hk]
   ·simp [e]
theorem qaR (ids : List Nat) (h : HpT) (i : Nat) : qa0 (qk8 ids h) i = if i ∈ ids then none else qa0 h i := by
 induction h with
 | nil => simp [qk8, qa0]
 | cons p h ih =>
  obtain ⟨k, b⟩ := p;unfold qk8;split
  ·rename_i hk
   have hk : k ∈ ids := by simpa using hk
   rw [ih, qc2];by_cases e : i = k
   ·subst e; simp [hk]
   ·simp [e]
  ·rename_i hk
   have hk : k ∉ ids := by simpa using hk
   rw [qc2, qc2, ih];by_cases e : i = k
   ·subst e; simp [hk]
   ·simp [e]
theorem qxG (ids : List Nat) (h Hs : HpT) (i : Nat) : qa0 (qaK ids h ++ (qk8 ids h ++ Hs)) i = qa0 (h ++ Hs) i := by
 rw [qa1, qa1, qa1, qeP, qaR];by_cases hi : i ∈ ids
 ·simp [hi]
 ·simp [hi]
theorem S9.congr {σ : Nat->Option Id} {E E' : qd9} {H H' : HpT} {c : Nat} {s : St} {R : List (TV × AV)} (h : S9 σ E H c s R) (hE : ∀ t, qa5 E' t = qa5 E t) (hH : ∀ i, qa0 H' i = qa0 H i) : S9 σ E' H' c s R := by
 have g : Gos σ H σ H' := fun i b hb => ⟨rfl, b, by rw [hH]; exact hb, Cp.refl b⟩
 have live : ∀ {i}, qoV H' i->qoV H i := fun ⟨b, h1, h2⟩ => ⟨b, by rw [← hH]; exact h1, h2⟩
 refine ⟨⟨fun i b hb => ?_, fun i j id hi hj => h.sh.inj i j id (live hi) (live hj), fun i b hb => h.sh.cnt i b (by rw [← hH]; exact hb), ?_⟩, fun t => by rw [hE]; exact (h.env t).mono g, fun p hp => (h.rel p hp).mono g⟩
 ·exact (h.sh.blk i b (by rw [← hH]; exact hb)).mono g rfl (fun _ _ => rfl)
 ·obtain ⟨N, f1, f2⟩ := h.sh.fresh
  exact ⟨N, f1, fun i b id hb => f2 i b id (by rw [← hH]; exact hb)⟩
theorem S9.weak {σ : Nat->Option Id} {E E' : qd9} {H H' : HpT} {c : Nat} {s : St} {R : List (TV × AV)} (h : S9 σ E H c s R) (hE : ∀ t, qa5 E' t = qa5 E t\/qa5 E' t = .junk) (hH : ∀ i, qa0 H' i = qa0 H i) : S9 σ E' H' c s R := by
 have h' := h.congr (fun _ => rfl) hH;refine ⟨h'.sh, fun t => ?_, h'.rel⟩;rcases hE t with e | e
 ·rw [e]; exact h'.env t
 ·rw [e]; exact .inl (.junk _)
theorem zt1 (l m : List Nat) (i : Nat) : i ∈ qdH l m ↔ i ∈ l/\i ∈ m := by
 induction l with
 | nil => simp [qdH]
 | cons a l ih =>
  unfold qdH;split
  ·rename_i h
   have h : a ∈ m := by simpa using h
   simp only [List.mem_cons, ih];constructor
   ·rintro (rfl | ⟨h1, h2⟩)
    ·exact ⟨.inl rfl, h⟩
    ·exact ⟨.inr h1, h2⟩
   ·rintro ⟨rfl | h1, h2⟩
    ·exact .inl rfl
    ·exact .inr ⟨h1, h2⟩
  ·rename_i h
   have h : a ∉ m := by simpa using h
   simp only [List.mem_cons, ih];constructor
   ·rintro ⟨h1, h2⟩; exact ⟨.inr h1, h2⟩
   ·rintro ⟨rfl | h1, h2⟩
    ·exact absurd h2 h
    ·exact ⟨h1, h2⟩
theorem quE (W : List Nat) (e Es : qd9) (t : Nat) : (t ∉ W/\qa5 (qj6 (qdH W (qe9 Es)) (qk4 W e) ++ Es) t = qa5 (e ++ Es) t)\/qa5 (qj6 (qdH W (qe9 Es)) (qk4 W e) ++ Es) t = .junk := by
 rw [qf3];by_cases h1 : t ∈ qdH W (qe9 Es)
 ·rw [if_pos h1]; exact .inr rfl
 ·rw [if_neg h1, qg5, qg5]
  by_cases h2 : t ∈ qe9 (qk4 W e)
  ·rw [if_pos h2]
   obtain ⟨q1, q2⟩ := (qaQ W e t).1 h2;exact .inl ⟨q1, by rw [if_pos q2]; exact qq4 W e t q1⟩
  ·rw [if_neg h2]
   by_cases hw : t ∈ W
   ·exact .inr (qm4 (fun h3 => h1 ((zt1 _ _ _).2 ⟨hw, h3⟩)))
   ·exact .inl ⟨hw, by rw [if_neg (fun h3 => h2 ((qaQ W e t).2 ⟨hw, h3⟩))]⟩
theorem qoZ {dy : List Nat} {c : Nat} : ∀ {l : List Nat}, qzY dy c l = true->∀ i ∈ l, i ∈ dy\/c<=i
 | [], _, i, hi => by cases hi
 | k :: l, h, i, hi => by
  simp only [qzY, Bool.and_eq_true, Bool.or_eq_true] at h;rcases List.mem_cons.1 hi with rfl | hi
  ·exact h.1.imp (fun h => by simpa using h) qg3
  ·exact qoZ h.2 i hi
theorem qhH {h : HpT} : ∀ {l : List Nat}, qtO h l = true->∀ i ∈ l, ∀ cells, qa0 h i ≠ some (.box cells)
 | [], _, i, hi => by cases hi
 | k :: l, hl, i, hi => by
  simp only [qtO, Bool.and_eq_true] at hl;rcases List.mem_cons.1 hi with rfl | hi
  ·intro cells hc
   rw [hc] at hl;cases hl.1
  ·exact qhH hl.2 i hi
theorem qfY {l : List Nat} : ∀ {m : List Nat}, zg9 l m = true->∀ i ∈ m, i ∉ l
 | [], _, i, hi => by cases hi
 | k :: m, h, i, hi => by
  simp only [zg9, Bool.and_eq_true, Bool.not_eq_true'] at h;rcases List.mem_cons.1 hi with rfl | hi
  ·simpa using h.1
  ·exact qfY h.2 i hi
theorem qaS {σ : Nat->Option Id} {H : HpT} : ∀ {tys : List STy} {cs : List TV} {ys : List AV}, qbU σ H cs ys->∀ i ∈ qv9 tys cs, (qa0 H i).isSome = true
 | [], cs, ys, _, i, hi => by cases cs <;> simp [qv9] at hi
 | .v s :: l, cs, ys, h, i, hi => by
  cases cs with
  | nil => simp [qv9] at hi
  | cons x cs =>
   obtain ⟨y, ys, rfl, h1, h2⟩ := h.cons_inv;simp only [qv9] at hi;exact qaS h2 i hi
 | .r s :: l, cs, ys, h, i, hi => by
  cases cs with
  | nil => simp [qv9] at hi
  | cons x cs =>
   obtain ⟨y, ys, rfl, h1, h2⟩ := h.cons_inv;simp only [qv9] at hi;split at hi
   ·rcases List.mem_cons.1 hi with rfl | hi
    ·obtain ⟨z, hz⟩ := h1.any
     cases hz <;> simp_all
    ·exact qaS h2 i hi
   ·exact qaS h2 i hi
section
variable {P : Program} {C : FuncId->Con} {B : Id->Prop}
structure Parts (σ0 : Nat->Option Id) (E0 : qd9) (h Hs : HpT) (c : Nat) (s0 : St) (R : List (TV × AV)) (rs : List RSl) (ids0 : List Nat) : Prop where
 s9 : S9 σ0 E0 (h ++ Hs) c s0 R
 pres : ∀ i ∈ qb6 rs ++ ids0, (qa0 (h ++ Hs) i).isSome = true
 ap : ∀ i ∈ qb6 rs ++ ids0, i ∉ qv5 Hs
section
variable {σ0 : Nat->Option Id} {E0 : qd9} {h Hs : HpT} {c : Nat} {s0 : St} {R : List (TV × AV)} {rs : List RSl} {ids0 : List Nat}
theorem Parts.st1 (p : Parts σ0 E0 h Hs c s0 R rs ids0) : ∀ i b, qa0 (qk8 (qb6 rs ++ ids0) h ++ Hs) i = some b->i ∉ qb6 rs ++ ids0/\qa0 (h ++ Hs) i = some b := by
 intro i b hi;rw [qa1, qaR] at hi;by_cases hm : i ∈ qb6 rs ++ ids0
 ·rw [if_pos hm] at hi
  exact absurd (quC hi) (p.ap i hm)
 ·rw [if_neg hm] at hi
  exact ⟨hm, by rw [qa1]; exact hi⟩
theorem Parts.st2 (_p : Parts σ0 E0 h Hs c s0 R rs ids0) : ∀ i b, i ∉ qb6 rs ++ ids0->qa0 (h ++ Hs) i = some b->qa0 (qk8 (qb6 rs ++ ids0) h ++ Hs) i = some b := by
 intro i b hm hi;rw [qa1, qaR, if_neg hm, ← qa1];exact hi
theorem Parts.dy (p : Parts σ0 E0 h Hs c s0 R rs ids0) : ∀ i, i ∈ qb6 rs ++ ids0\/c<=i->qa0 (qk8 (qb6 rs ++ ids0) h ++ Hs) i = none := by
 intro i hi;cases hq : qa0 (qk8 (qb6 rs ++ ids0) h ++ Hs) i with
 | none => rfl
 | some b =>
  obtain ⟨h1, h2⟩ := p.st1 i b hq;rcases hi with hi | hi
  ·exact absurd hi h1
  ·have := p.s9.sh.cnt i b h2; omega
theorem Parts.ended (p : Parts σ0 E0 h Hs c s0 R rs ids0) {W : List Nat} {E1 : qd9} (hE1 : ∀ t, t ∉ W->t ∉ qe4 rs->qa5 E1 t = qa5 E0 t) {σ1 : Nat->Option Id} {e2 : qd9} {h2 : HpT} {c2 : Nat} {s1 : St} (h1 : S9 σ1 (e2 ++ E1) (h2 ++ (qk8 (qb6 rs ++ ids0) h ++ Hs)) c2 s1 R) {ρ : Type} {K : El (qk3 (qy3 (qz5 rs)))->Option ρ} {r : ρ} (hK : endK rs ids0 W c E1 e2 h2 K = some r) :
  ∃ v, K v = some r/\∀ cells hr c1 e' hb, mkC (qz5 rs) v c = (cells, hr, c1)->qjN cells rs cells = (e', hb)->∀ H2, (∀ i, qa0 H2 i = qa0 (hb ++ (hr ++ (qeI ids0 ++ (qk8 (qb6 rs ++ ids0) h ++ Hs)))) i)->qe9 e' = qe4 rs/\∃ σ2, ∀ E2, (∀ t, (t ∈ qe4 rs/\qa5 E2 t = qa5 e' t)\/qa5 E2 t = .junk\/(t ∉ W/\t ∉ qe4 rs/\qa5 E2 t = qa5 E0 t))->S9 σ2 E2 H2 c1 s1 R := by
 unfold endK at hK;split at hK
 ·rename_i hc
  simp only [Bool.and_eq_true] at hc;obtain ⟨⟨hin, qv5⟩, hnb⟩ := hc;have hin := qlU hin;have qv5 := qoZ qv5;obtain ⟨v, src, ys, hK, hT⟩ := quD h1 (hh := h2) (fun i b hi => qa2 hi) hK;refine ⟨v, hK, fun cells hr c1 e' hb hm hl H2 hH2 => ?_⟩
  have hsrc : ∀ i ∈ src.filterMap id, ∃ b, qa0 h2 i = some b := by
   intro i hi;obtain ⟨o, ho, rfl⟩ := List.mem_filterMap.1 hi;obtain ⟨k, hk⟩ := List.getElem?_of_mem ho
   obtain ⟨b, hb'⟩ := (hT.rows c cells hr c1 hm).2.1.all k (List.getElem?_eq_some_iff.1 hk).1;obtain ⟨k', s, l, o', e1, e2', _, _, e3, _⟩ := (hT.rows c cells hr c1 hm).2.1.some _ b hb';have : k' = k := by omega
   subst this;rw [hk] at e2';cases e2';exact ⟨_, e3 i rfl⟩
  obtain ⟨ke, σ2, hS⟩ := canon p.s9 h1 (rs := rs) (ids0 := ids0) (Hst := qk8 (qb6 rs ++ ids0) h ++ Hs) (hh := h2) p.pres p.st1 (fun i b hn hb0 => ⟨p.st2 i b hn hb0, by
   rw [qa1, qu1 (fun hm => ?_)]
   ·exact p.st2 i b hn hb0
   ·rcases qv5 i hm with h3 | h3
    ·exact hn h3
    ·have := p.s9.sh.cnt i b hb0; omega⟩) (fun i b hi => qa2 hi) (fun i hi cells hc => by
   rw [qa1, p.dy i (.inl (by simp [hi]))] at hc;cases hq : qa0 h2 i with
   | none => rw [hq] at hc; cases hc
   | some b => rw [hq] at hc; cases hc; exact qhH hnb i hi cells hq) hT (fun i hi => by
   obtain ⟨b, hb'⟩ := hsrc i hi;exact p.dy i (qv5 i (quC hb'))) hm hl hH2
  refine ⟨ke, σ2, fun E2 hE => hS E2 fun t => ?_⟩;rcases hE t with ⟨q1, q2⟩ | q | ⟨q1, q2, q3⟩
  ·exact .inl ⟨by rw [ke]; exact q1, q2⟩
  ·exact .inr (.inl q)
  ·refine .inr (.inr ⟨?_, q3⟩)
   rw [qg5, if_neg (fun hx => ?_), q3, hE1 t q1 q2];have := hin t hx;simp [q1, q2] at this
 ·cases hK
end
end
section
variable {P : Program} {C : FuncId->Con} {B : Id->Prop}
def zt2 [Inhabited TabsD] (P : Program) (C : FuncId->Con) (B : Id->Prop) (code : ACode) (R : List (TV × AV)) (s : St) (run : (ρ' : Type)->qd9->HpT->qd9->HpT->Nat->(Exit->KT ρ')->Option ρ') : Prop :=
 ∀ ρ Es Hs e h c K r, run ρ Es Hs e h c K = some r->∀ σ, S9 σ (e ++ Es) (h ++ Hs) c s R->∀ Q : Exit->St->Prop, (∀ x e' h' c' σ' s', S9 σ' (e' ++ Es) (h' ++ Hs) c' s' R->s'.env.n = s.env.n->K x e' h' c' = some r->Q x s')->WP P C B code Q s
theorem zt3 {α ρ : Type} {x : Option ρ} {y : α ⊕ ρ} (h : mX x = some y) : ∃ r, y = .inr r/\x = some r := by
 cases x with
 | none => cases h
 | some r => cases h; exact ⟨r, rfl, rfl⟩
theorem esc9 {σ : Nat->Option Id} {e2 e Es : qd9} {h2 hs Hs : HpT} {c : Nat} {s : St} {R : List (TV × AV)} {W : List Nat} (h : S9 σ (e2 ++ qk4 W (e ++ Es)) (h2 ++ (hs ++ Hs)) c s R) : S9 σ ((e2 ++ qj6 (qdH W (qe9 Es)) (qk4 W e)) ++ Es) ((h2 ++ hs) ++ Hs) c s R := by
 refine h.weak (fun t => ?_) (fun i => by rw [List.append_assoc]);have a1 := qg5 e2 (qj6 (qdH W (qe9 Es)) (qk4 W e) ++ Es) t;have a2 := qg5 e2 (qk4 W (e ++ Es)) t;rw [List.append_assoc, a1, a2];by_cases h1 : t ∈ qe9 e2
 ·rw [if_pos h1, if_pos h1]; exact .inl rfl
 ·rw [if_neg h1, if_neg h1]
  rcases quE W e Es t with ⟨h2, h3⟩ | h3
  ·exact .inl (by rw [h3, qq4 W (e ++ Es) t h2])
  ·exact .inr h3
theorem quF {σ0 : Nat->Option Id} {e Es : qd9} {h Hs : HpT} {c : Nat} {s0 : St} {R : List (TV × AV)} {rs : List RSl} {ids0 W : List Nat} {s1 : St} {ρ : Type} {K : KT ρ} {r : ρ} {v : El (qk3 (qy3 (qz5 rs)))}
  (hv : ∀ cells hr c1 e' hb, mkC (qz5 rs) v c = (cells, hr, c1)->qjN cells rs cells = (e', hb)->∀ H2, (∀ i, qa0 H2 i = qa0 (hb ++ (hr ++ (qeI ids0 ++ (qk8 (qb6 rs ++ ids0) h ++ Hs)))) i)->qe9 e' = qe4 rs/\∃ σ2, ∀ E2, (∀ t, (t ∈ qe4 rs/\qa5 E2 t = qa5 e' t)\/qa5 E2 t = .junk\/(t ∉ W/\t ∉ qe4 rs/\qa5 E2 t = qa5 (e ++ Es) t))->S9 σ2 E2 H2 c1 s1 R)
  (hK : contK rs ids0 W Es (qk4 W e) (qk8 (qb6 rs ++ ids0) h) c K v = some r) : ∃ e' h' c' σ', S9 σ' (e' ++ Es) (h' ++ Hs) c' s1 R/\K e' h' c' = some r := by
 have _ := σ0; have _ := s0;unfold contK at hK;cases hm : mkC (qz5 rs) v c with
 | mk cells p =>
  obtain ⟨hr, c1⟩ := p;cases hl : qjN cells rs cells with
  | mk e' hb =>
   simp only [hm, hl, qbS] at hK;obtain ⟨ke, σ2, hS⟩ := hv cells hr c1 e' hb hm hl ((hb ++ hr ++ qeI ids0 ++ qk8 (qb6 rs ++ ids0) h) ++ Hs) (fun i => by simp only [List.append_assoc]);refine ⟨_, _, c1, σ2, hS _ (fun t => ?_), hK⟩;rw [List.append_assoc, qg5, ke];by_cases h1 : t ∈ qe4 rs
   ·rw [if_pos h1]; exact .inl ⟨h1, rfl⟩
   ·rw [if_neg h1]
    rcases quE W e Es t with ⟨h2, h3⟩ | h3
    ·exact .inr (.inr ⟨h2, h1, h3⟩)
    ·exact .inr (.inl h3)
theorem quG {code : ACode} {R : List (TV × AV)} {s : St} {run : (ρ' : Type)->qd9->HpT->qd9->HpT->Nat->(Exit->KT ρ')->Option ρ'} (hrun : zt2 P C B code R s run) {ρ : Type} {sl : List Slot} {esc : Bool} {W : List Nat} {Es : qd9} {Hs : HpT} {e : qd9} {h : HpT} {c : Nat} {K : Exit->KT ρ} {r : ρ}
  (hK : joinK ρ sl esc W Es Hs e h c run K = some r) {σ : Nat->Option Id} (hS : S9 σ (e ++ Es) (h ++ Hs) c s R) {Q : Exit->St->Prop} (hQ : ∀ x e' h' c' σ' s', S9 σ' (e' ++ Es) (h' ++ Hs) c' s' R->s'.env.n = s.env.n->K x e' h' c' = some r->Q x s') : WP P C B code Q s := by
 unfold joinK at hK;split at hK
 ·rename_i rs hrs
  split at hK
  ·rename_i cs0 hcs0
   obtain ⟨ys0, t1, t2, _⟩ := qbV hS (hh := h) (fun i b hi => qa2 hi) hcs0;simp only at hK;split at hK
   ·rename_i hap
    rw [qbS, qbS] at hK
    have p : Parts σ (e ++ Es) h Hs c s R rs (qv9 (qz5 rs) cs0) := ⟨hS, fun i hi => by
     rcases List.mem_append.1 hi with hi | hi
     ·obtain ⟨cells, hc⟩ := t2 i hi
      rw [qa2 hc]; rfl
     ·exact qaS t1 i hi, qfY hap⟩
    have hS1 : S9 σ (qlM W (e ++ Es) ++ qk4 W (e ++ Es)) (qaK (qb6 rs ++ qv9 (qz5 rs) cs0) h ++ (qk8 (qb6 rs ++ qv9 (qz5 rs) cs0) h ++ Hs)) c s R := hS.congr (qxF W _) (qxG _ _ _);have hE1 : ∀ t, t ∉ W->t ∉ qe4 rs->qa5 (qk4 W (e ++ Es)) t = qa5 (e ++ Es) t := fun t h1 _ => qq4 W _ t h1
    split at hK
    ·obtain ⟨v, hv, hK⟩ := qi9 hK
     refine hrun _ _ _ _ _ _ _ v hv σ hS1 Q ?_
     intro x e2 h2 c2 σ2 s2 q1 q2 q3;cases x with
     | normal =>
      obtain ⟨v', hv', hc⟩ := p.ended (W := W) hE1 q1 q3;cases hv';obtain ⟨e', h', c', σ', g1, g2⟩ := quF (σ0 := σ) (s0 := s) hc hK;exact hQ .normal e' h' c' σ' s2 g1 q2 g2
     | _ => cases q3
    ·obtain ⟨y, hy, hK⟩ := qi9 hK
     refine hrun _ _ _ _ _ _ _ y hy σ hS1 Q ?_
     intro x e2 h2 c2 σ2 s2 q1 q2 q3
     have out : ∀ {x : Exit}, mX (K x (e2 ++ qj6 (qdH W (qe9 Es)) (qk4 W e)) (h2 ++ qk8 (qb6 rs ++ qv9 (qz5 rs) cs0) h) c2) = some y->Q x s2 := by
      intro x hx;obtain ⟨r', rfl, hr'⟩ := zt3 hx;have : r' = r := Option.some.inj hK;subst this;exact hQ x _ _ c2 σ2 s2 (esc9 q1) q2 hr'
     cases x with
     | normal =>
      obtain ⟨v', hv', hc⟩ := p.ended (W := W) hE1 q1 q3;cases hv';obtain ⟨e', h', c', σ', g1, g2⟩ := quF (σ0 := σ) (s0 := s) hc hK;exact hQ .normal e' h' c' σ' s2 g1 q2 g2
     | _ => exact out q3
   ·cases hK
  ·cases hK
 ·cases hK
theorem zt4 {code : ACode} {R : List (TV × AV)} {n : Nat} {run : (ρ' : Type)->qd9->HpT->qd9->HpT->Nat->(Exit->KT ρ')->Option ρ'} (hrun : ∀ s : St, s.env.n = n->zt2 P C B code R s run) {ρ : Type} {sl : List Slot} {W : List Nat} {Es : qd9} {Hs : HpT} {e : qd9} {h : HpT} {c : Nat} {K : Exit->KT ρ} {r : ρ}
  (hK : loopK ρ sl W Es Hs e h c run K = some r) {σ : Nat->Option Id} {s : St} (hn : s.env.n = n) (hS : S9 σ (e ++ Es) (h ++ Hs) c s R) {Q : Exit->St->Prop} (hQ : ∀ x e' h' c' σ' s', S9 σ' (e' ++ Es) (h' ++ Hs) c' s' R->s'.env.n = n->x ≠ .normal->K x e' h' c' = some r->Q x s') : WP P C B (.loop code) Q s := by
 unfold loopK at hK;split at hK
 ·rename_i rs hrs
  obtain ⟨v0, src, ys, hK, hT⟩ := quD hS (hh := h) (fun i b hi => qa2 hi) hK;split at hK
  ·rename_i hc
   rw [Bool.and_eq_true] at hc;rw [qbS] at hK;generalize hids : src.filterMap id = ids0 at hK hc
   have hsrc : ∀ i ∈ src.filterMap id, ∃ b, qa0 h i = some b := by
    intro i hi;obtain ⟨o, ho, rfl⟩ := List.mem_filterMap.1 hi;obtain ⟨k, hk⟩ := List.getElem?_of_mem ho
    cases hm : mkC (qz5 rs) v0 c with
    | mk cells p =>
     obtain ⟨hr, c1⟩ := p;obtain ⟨b, hb'⟩ := (hT.rows c cells hr c1 hm).2.1.all k (List.getElem?_eq_some_iff.1 hk).1;obtain ⟨k', s, l, o', e1, e2', _, _, e3, _⟩ := (hT.rows c cells hr c1 hm).2.1.some _ b hb';have : k' = k := by omega
     subst this;rw [hk] at e2';cases e2';exact ⟨_, e3 i rfl⟩
   have p : Parts σ (e ++ Es) h Hs c s R rs ids0 := ⟨hS, fun i hi => by
    rcases List.mem_append.1 hi with hi | hi
    ·obtain ⟨cells, hc⟩ := hT.box i hi
     rw [qa2 hc]; rfl
    ·obtain ⟨b, hb⟩ := hsrc i (by rw [hids]; exact hi)
     rw [qa2 hb]; rfl, qfY hc.1⟩
   have hE1 : ∀ t, t ∉ W->t ∉ qe4 rs->qa5 (qk4 (W ++ qe4 rs) (e ++ Es)) t = qa5 (e ++ Es) t := fun t h1 h2 => qq4 _ _ t (by simp [h1, h2])
   obtain ⟨n0, hn0⟩ := qfP.1 hK
   obtain ⟨f, hn0, hf⟩ : ∃ f : El (qk3 (qy3 (qz5 rs)))->Option (El (qk3 (qy3 (qz5 rs))) ⊕ ρ), qhA f n0 v0 = some r/\∀ v cells hr c1 e1 hb, mkC (qz5 rs) v c = (cells, hr, c1)->qjN cells rs cells = (e1, hb)->f v = run (El (qk3 (qy3 (qz5 rs))) ⊕ ρ) (qk4 (W ++ qe4 rs) (e ++ Es)) (qk8 (qb6 rs ++ ids0) h ++ Hs) e1 (hb ++ hr ++ qeI ids0) c1 fun x e2 h2 c2 => (match x with
       | .normal => endK rs ids0 W c (qk4 (W ++ qe4 rs) (e ++ Es)) e2 h2 fun v => some (.inl v)
       | x => mX (K x (e2 ++ qj6 (qdH (W ++ qe4 rs) (qe9 Es)) (qk4 (W ++ qe4 rs) e)) (h2 ++ qk8 (qb6 rs ++ ids0) h) c2)) := ⟨_, hn0, fun v cells hr c1 e1 hb hm hl => by simp only [hm, hl, qbS] <;> rfl⟩
   refine zq8 ?_
   -- where a round begins
   have start : ∀ (v : El (qk3 (qy3 (qz5 rs)))) (s1 : St), (∀ cells hr c1 e' hb, mkC (qz5 rs) v c = (cells, hr, c1)->qjN cells rs cells = (e', hb)->∀ H2, (∀ i, qa0 H2 i = qa0 (hb ++ (hr ++ (qeI ids0 ++ (qk8 (qb6 rs ++ ids0) h ++ Hs)))) i)->qe9 e' = qe4 rs/\∃ σ2, ∀ E2, (∀ t, (t ∈ qe4 rs/\qa5 E2 t = qa5 e' t)\/qa5 E2 t = .junk\/(t ∉ W/\t ∉ qe4 rs/\qa5 E2 t = qa5 (e ++ Es) t))->S9 σ2 E2 H2 c1 s1 R) →
     ∀ cells hr c1 e1 hb, mkC (qz5 rs) v c = (cells, hr, c1)->qjN cells rs cells = (e1, hb)->∃ σ2, S9 σ2 (e1 ++ qk4 (W ++ qe4 rs) (e ++ Es)) ((hb ++ hr ++ qeI ids0) ++ (qk8 (qb6 rs ++ ids0) h ++ Hs)) c1 s1 R := by
    intro v s1 hv cells hr c1 e1 hb hm hl;obtain ⟨ke, σ2, hS⟩ := hv cells hr c1 e1 hb hm hl ((hb ++ hr ++ qeI ids0) ++ (qk8 (qb6 rs ++ ids0) h ++ Hs)) (fun i => by simp only [List.append_assoc]);refine ⟨σ2, hS _ (fun t => ?_)⟩;rw [qg5, ke];by_cases h1 : t ∈ qe4 rs
    ·rw [if_pos h1]; exact .inl ⟨h1, rfl⟩
    ·rw [if_neg h1]
     by_cases h2 : t ∈ qe9 (qk4 (W ++ qe4 rs) (e ++ Es))
     ·have := ((qaQ _ _ t).1 h2).1
      simp only [List.mem_append, not_or] at this;exact .inr (.inr ⟨this.1, this.2, qq4 _ _ t (by simp [this.1, this.2])⟩)
     ·exact .inr (.inl (qm4 h2))
   have first : ∀ cells hr c1 e' hb, mkC (qz5 rs) v0 c = (cells, hr, c1)->qjN cells rs cells = (e', hb)->∀ H2, (∀ i, qa0 H2 i = qa0 (hb ++ (hr ++ (qeI ids0 ++ (qk8 (qb6 rs ++ ids0) h ++ Hs)))) i)->qe9 e' = qe4 rs/\∃ σ2, ∀ E2, (∀ t, (t ∈ qe4 rs/\qa5 E2 t = qa5 e' t)\/qa5 E2 t = .junk\/(t ∉ W/\t ∉ qe4 rs/\qa5 E2 t = qa5 (e ++ Es) t))->S9 σ2 E2 H2 c1 s R := by
    intro cells hr c1 e' hb hm hl H2 hH2
    obtain ⟨ke, σ2, hS2⟩ := canon hS hS (rs := rs) (ids0 := ids0) (Hst := qk8 (qb6 rs ++ ids0) h ++ Hs) (hh := h) p.pres p.st1 (fun i b hn hb0 => ⟨p.st2 i b hn hb0, hb0⟩) (fun i b hi => qa2 hi) (fun i hi cells hcc => by
     have hnh := p.ap i (by simp [hi]);rw [qa1] at hcc;cases hq : qa0 h i with
     | none => rw [hq, qu1 hnh] at hcc; cases hcc
     | some b => rw [hq] at hcc; cases hcc; exact qhH hc.2 i hi cells hq) hT (fun i hi => p.dy i (.inl (by rw [hids] at hi; simp [hi]))) hm hl hH2
    refine ⟨ke, σ2, fun E2 hE => hS2 E2 fun t => ?_⟩;rcases hE t with ⟨q1, q2⟩ | q | ⟨_, _, q3⟩
    ·exact .inl ⟨by rw [ke]; exact q1, q2⟩
    ·exact .inr (.inl q)
    ·exact .inr (.inr ⟨q3, q3⟩)
   suffices key : ∀ n0 v (s1 : St), s1.env.n = n->(∀ cells hr c1 e' hb, mkC (qz5 rs) v c = (cells, hr, c1)->qjN cells rs cells = (e', hb)->∀ H2, (∀ i, qa0 H2 i = qa0 (hb ++ (hr ++ (qeI ids0 ++ (qk8 (qb6 rs ++ ids0) h ++ Hs)))) i)->qe9 e' = qe4 rs/\∃ σ2, ∀ E2, (∀ t, (t ∈ qe4 rs/\qa5 E2 t = qa5 e' t)\/qa5 E2 t = .junk\/(t ∉ W/\t ∉ qe4 rs/\qa5 E2 t = qa5 (e ++ Es) t))->S9 σ2 E2 H2 c1 s1 R)->qhA f n0 v = some r->RD P C B code Q s1 from key n0 v0 s hn first hn0
   intro n0
   induction n0 with
   | zero => intro v s1 _ _ h; cases h
   | succ n0 ih =>
    intro v s1 hs1 hv hit;unfold qhA at hit;cases hm : mkC (qz5 rs) v c with
    | mk cells pp =>
     obtain ⟨hr, c1⟩ := pp;cases hl : qjN cells rs cells with
     | mk e1 hb =>
      obtain ⟨σ2, hS2⟩ := start v s1 hv cells hr c1 e1 hb hm hl;rw [hf v cells hr c1 e1 hb hm hl] at hit;refine zq7 (Sub.refl s1) ?_
      split at hit
      ·rename_i v' hy
       refine hrun s1 hs1 _ _ _ _ _ _ _ _ hy σ2 hS2 _ ?_
       intro x e2 h2 c2 σ3 s2 q1 q2 q3;cases x with
       | normal =>
        obtain ⟨v2, hv2, hc2⟩ := p.ended (W := W) hE1 q1 q3;cases hv2;exact ih v' s2 (q2.trans hs1) hc2 hit
       | _ => obtain ⟨_, h, _⟩ := zt3 q3; cases h
      ·rename_i r' hy
       cases hit;refine hrun s1 hs1 _ _ _ _ _ _ _ _ hy σ2 hS2 _ ?_
       intro x e2 h2 c2 σ3 s2 q1 q2 q3
       have out : ∀ {x : Exit}, x ≠ .normal->mX (α := El (qk3 (qy3 (qz5 rs)))) (K x (e2 ++ qj6 (qdH (W ++ qe4 rs) (qe9 Es)) (qk4 (W ++ qe4 rs) e)) (h2 ++ qk8 (qb6 rs ++ ids0) h) c2) = some (.inr r)->Q x s2 := by
        intro x hne hx;obtain ⟨r', e', hr'⟩ := zt3 hx;cases e';exact hQ x _ _ c2 σ3 s2 (esc9 q1) (q2.trans hs1) hne hr'
       cases x with
       | normal =>
        obtain ⟨v2, hv2, hc2⟩ := p.ended (W := W) hE1 q1 q3;cases hv2
       | _ => exact out (by simp) q3
      ·cases hit
  ·cases hK
 ·cases hK
end
section
variable {C : FuncId->Con} {ρ : Type}
theorem fU_eq (x : TV) (K : TV->Option ρ) : fU x K = K (unU x) := by cases x <;> rfl
theorem qxH {agg : Bool} {l : List TV} {tv : TV} (h : qp4 agg l some = some tv) (K : TV->Option ρ) : qp4 agg l K = K tv := by
 unfold qp4 at h ⊢;split at h
 ·rw [qeK] at h ⊢; cases h; rfl
 ·split at h
  ·rw [qnQ] at h ⊢; cases h; rfl
  ·cases h
theorem zb1 {l : List TV} {o n : Nat} {agg : Bool} {tv : TV} (h : qdG l o n agg some = some tv) (K : TV->Option ρ) : qdG l o n agg K = K tv := by
 unfold qdG at h ⊢;split at h
 ·exact qxH h K
 ·cases h
theorem qbW {i : AIns} (h : qx1 i = true) : i.guard = none/\(∃ d, i.dst = some d)/\((∃ x, i.op = .p (.mv (.t x)))\/(∃ x, i.op = .p (.chk (.t x)))\/(∃ o x, i.op = .p (.foff o (.t x)))\/∃ n agg x, i.op = .r (.load n agg (.t x))) := by
 unfold qx1 at h;simp only [Bool.and_eq_true, Option.isNone_iff_eq_none, Option.isSome_iff_exists] at h;obtain ⟨⟨h1, h2⟩, h3⟩ := h;refine ⟨h1, h2, ?_⟩;split at h3
 ·rename_i e; exact .inl ⟨_, e⟩
 ·rename_i e; exact .inr (.inl ⟨_, e⟩)
 ·rename_i e; exact .inr (.inr (.inl ⟨_, _, e⟩))
 ·rename_i e; exact .inr (.inr (.inr ⟨_, _, _, e⟩))
 ·cases h3
section
variable {X : Cx} {inl : Inl} {dr : Bool} {Hs h : HpT} {E : qd9} {ty : Option Sh} {c : Nat}
theorem qqY {i : AIns} (hl : qx1 i = true) {tv : TV} (ht : qwB E (h ++ Hs) i.op = some tv) (K : TV->HpT->Nat->Option ρ) : opK X inl dr Hs (evT E) (qnK E) ty i.op h c K = K tv h c := by
 obtain ⟨_, _, ⟨x, e⟩ | ⟨x, e⟩ | ⟨o, x, e⟩ | ⟨n, agg, x, e⟩⟩ := qbW hl <;> rw [e] at ht ⊢ <;> simp only [qwB, opK, qr7, qfQ, evT, qnK] at ht ⊢
 ·cases hq : qa5 E x <;> rw [hq] at ht <;> cases ht <;> simp only [qnQ, noLit]
 ·cases hq : qa5 E x <;> rw [hq] at ht <;> cases ht <;> rfl
 ·cases hq : qa5 E x <;> rw [hq] at ht <;> cases ht <;> rfl
 ·cases hq : qa5 E x <;> rw [hq] at ht <;> simp only [reduceCtorEq] at ht
  simp only [noLit];split at ht
  ·rename_i he; first | exact zb1 ht _ | (rw [he]; exact zb1 ht _)
  ·cases ht
theorem opK_calm {i : TIns} (hc : zh0 i = true) {K1 K2 : TV->HpT->Nat->Option ρ} (hK : ∀ x, (qx1 i.i = true->∀ tv, qwB E (h ++ Hs) i.i.op = some tv->x = tv)->K1 x h c = K2 x h c) :
  opK X inl dr Hs (evT E) (qnK E) ty i.i.op h c K1 = opK X inl dr Hs (evT E) (qnK E) ty i.i.op h c K2 := by
 by_cases hl : qx1 i.i = true
 ·cases ht : qwB E (h ++ Hs) i.i.op with
  | some tv => rw [qqY hl ht, qqY hl ht]; exact hK tv fun _ tv' h => by rw [ht] at h; cases h; rfl
  | none =>
   have hK' : ∀ x, K1 x h c = K2 x h c := fun x => hK x fun _ tv h => by rw [ht] at h; cases h
   have e : (fun x => K1 x h c) = fun x => K2 x h c := funext hK'
   obtain ⟨_, _, ⟨x, eo⟩ | ⟨x, eo⟩ | ⟨o, x, eo⟩ | ⟨n, agg, x, eo⟩⟩ := qbW hl <;> rw [eo] <;> simp only [opK, qfQ, e]
 ·unfold zh0 at hc
  simp only [Bool.and_eq_true] at hc;have hc := hc.2;split at hc
  ·rename_i o e
   have e' : (fun x => K1 x h c) = fun x => K2 x h c := funext fun x => hK x fun h => absurd h hl
   rw [e];simp only [opK, e']
  ·exact absurd hc hl
end
def Seen (E : qd9) (H : HpT) (i : TIns) : Prop := qx1 i.i = true->∀ tv d, i.i.dst = some d->qwB E H i.i.op = some tv->unU tv = qa5 E d
theorem qfZ {E E' : qd9} {H H' : HpT} {i : AIns} (hl : qx1 i = true) (hr : ∀ t ∈ qj4 i, qa5 E' t = qa5 E t) (hh : ∀ n agg x b o, i.op = .r (.load n agg (.t x))->qa5 E x = .box b o->qa0 H' b = qa0 H b) : qwB E' H' i.op = qwB E H i.op := by
 obtain ⟨_, _, ⟨x, e⟩ | ⟨x, e⟩ | ⟨o, x, e⟩ | ⟨n, agg, x, e⟩⟩ := qbW hl
 ·have := hr x (by simp [qj4, qgP, qh0, e]); rw [e]; simp only [qwB, this]
 ·have := hr x (by simp [qj4, qgP, qh0, e]); rw [e]; simp only [qwB, this]
 ·have := hr x (by simp [qj4, qgP, qh0, e]); rw [e]; simp only [qwB, this]
 ·have := hr x (by simp [qj4, qgP, qiV, e])
  have h2 := hh n agg x;rw [e]; simp only [qwB, this];cases hq : qa5 E x <;> try rfl
  rename_i b o;simp only [h2 b o e hq]
theorem qcV {d : Option Nat} {x : TV} {e Es : qd9} {t : Nat} : qa5 (qsC d x e ++ Es) t = if d = some t then x else qa5 (e ++ Es) t := by
 cases d with
 | none => simp [qsC]
 | some d =>
  simp only [qsC, List.cons_append, qb7, Option.some.injEq];by_cases h : t = d
  ·rw [if_pos h, if_pos h.symm]
  ·rw [if_neg h, if_neg (Ne.symm h)]
theorem qjR {i : TIns} {l : List TIns} (h : ordT (i :: l) = true) : (∀ j ∈ i :: l, ∀ d, j.i.dst = some d->d ∉ qj4 i.i)/\ordT l = true := by
 simp only [ordT, Bool.and_eq_true] at h;refine ⟨fun j hj d hd => ?_, h.2⟩;have := List.all_eq_true.1 h.1 j hj;rw [hd] at this;simpa using this
theorem calm_run {X : Cx} {inl : Inl} {dr : Bool} {Es : qd9} {Hs h : HpT} {c : Nat} {K K' : KT ρ} : ∀ (n : Nat) (a : List TIns) (D : List TIns) (e : qd9), a.all zh0 = true->ordT a = true->ND a →
  (∀ j ∈ D, Seen (e ++ Es) (h ++ Hs) j)->(∀ j ∈ D, ∀ i ∈ a, ∀ d, i.i.dst = some d->d ∉ qj4 j.i/\j.i.dst ≠ some d) →
  (∀ e1, (∀ j, j ∈ D\/j ∈ a->Seen (e1 ++ Es) (h ++ Hs) j)->K e1 h c = K' e1 h c)->qt9 X inl dr n ρ Es Hs a e h c K = qt9 X inl dr n ρ Es Hs a e h c K' := by
 intro n
 induction n with
 | zero => intros; rfl
 | succ n ih =>
  intro a D e hc ho hnd hD hap hK;cases a with
  | nil => exact hK e fun j hj => hD j (by simpa using hj)
  | cons i l =>
   rw [List.all_cons, Bool.and_eq_true] at hc;obtain ⟨ho1, ho2⟩ := qjR ho
   have hg : i.i.guard = none := by
    have := hc.1;unfold zh0 at this;simp only [Bool.and_eq_true, Option.isNone_iff_eq_none] at this;exact this.1.1
   obtain ⟨d, hd⟩ : ∃ d, i.i.dst = some d := by
    have := hc.1;unfold zh0 at this;simp only [Bool.and_eq_true, Option.isSome_iff_exists] at this;exact this.1.2
   simp only [qt9, hg];refine opK_calm hc.1 fun x hx => ?_
   rw [fU_eq, fU_eq]
   have keep : ∀ j : TIns, (∀ d', i.i.dst = some d'->d' ∉ qj4 j.i/\j.i.dst ≠ some d')->Seen (e ++ Es) (h ++ Hs) j->Seen (qsC i.i.dst (unU x) e ++ Es) (h ++ Hs) j := by
    intro j hj hs hl tv dj hdj ht;obtain ⟨h1, h2⟩ := hj d hd;rw [qfZ hl (E := e ++ Es) (H := h ++ Hs) (fun t ht => by rw [qcV, if_neg]; rintro e; rw [hd] at e; cases e; exact h1 ht) (fun _ _ _ _ _ _ _ => rfl)] at ht;rw [qcV, if_neg (by rw [hd]; intro e; cases e; exact h2 hdj)];exact hs hl tv dj hdj ht
   refine ih l (i :: D) (qsC i.i.dst (unU x) e) hc.2 ho2 hnd.2 (fun j hj => ?_) (fun j hj k hk dk hdk => ?_) (fun e1 he => hK e1 fun j hj => he j (by
    rcases hj with h | h
    ·exact .inl (by simp [h])
    ·rcases List.mem_cons.1 h with rfl | h
     ·exact .inl (by simp)
     ·exact .inr h))
   ·rcases List.mem_cons.1 hj with rfl | hj
    ·intro hl tv dj hdj ht
     rw [qfZ hl (E := e ++ Es) (H := h ++ Hs) (fun t ht => by rw [qcV, if_neg]; rintro e; exact ho1 j (by simp) t e ht) (fun _ _ _ _ _ _ _ => rfl)] at ht;rw [qcV, if_pos hdj, hx hl tv ht]
    ·exact keep j (fun d' h' => hap j hj i (by simp) d' h') (hD j hj)
   ·rcases List.mem_cons.1 hj with rfl | hj
    ·exact ⟨ho1 k (by simp [hk]) dk hdk, fun e => hnd.1 dk e k hk hdk⟩
    ·exact hap j hj k (by simp [hk]) dk hdk
theorem zb2 {X : Cx} {inl : Inl} {ns : Id} (hC : qsD true X C) (hns : ns ≠ []) {c : Nat} {R : List (TV × AV)} {E2 : qd9} {H2 : HpT} : ∀ (La b : List TIns) (E : qd9) (s : St) (σ : Nat->Option Id), S9 σ E H2 c s R →
  (∀ i ∈ La, ∀ d, i.i.dst = some d->d < s.env.n)->(∀ i ∈ La, qx1 i.i = true/\Seen E2 H2 i/\∃ tv, qwB E2 H2 i.i.op = some tv)->ordT La = true->ND (La ++ b)->qiX ns σ H2 s.H (La ++ b) →
  (∀ t, t ∉ qf7 La []->qa5 E t = qa5 E2 t) →
  ∃ E' σ' s', run C ns (qf8 La) s = some s'/\S9 σ' E' H2 c s' R/\s'.env.n = s.env.n/\(∀ t, qa5 E' t = qa5 E2 t)/\qiX ns σ' H2 s'.H b
 | [], b, E, s, σ, hS, _, _, _, _, hN, hE => ⟨E, σ, s, rfl, hS, rfl, fun t => hE t (by simp [qf7]), hN⟩
 | i :: La, b, E, s, σ, hS, hd, hl, ho, hnd, hN, hE => by
  obtain ⟨ho1, ho2⟩ := qjR ho;obtain ⟨hl1, hs1, tv, ht⟩ := hl i (by simp);obtain ⟨hg, ⟨d, hdst⟩, _⟩ := qbW hl1
  have memd : ∀ (l : List TIns) (m : List Nat) (j : TIns) (d : Nat), (d ∈ qf7 l m ↔ (∃ j ∈ l, j.i.dst = some d)\/d ∈ m) := by
   intro l m j d
   induction l with
   | nil => simp [qf7]
   | cons k l ih =>
    simp only [qf7];cases hk : k.i.dst with
    | none => simp only [List.mem_cons, exists_eq_or_imp, hk, reduceCtorEq, false_or]; exact ih
    | some dk =>
     simp only [List.mem_cons, exists_eq_or_imp, hk, Option.some.injEq];rw [ih];constructor
     ·rintro (h | h | h)
      ·exact .inl (.inl h.symm)
      ·exact .inl (.inr h)
      ·exact .inr h
     ·rintro ((h | h) | h)
      ·exact .inl h.symm
      ·exact .inr (.inl h)
      ·exact .inr (.inr h)
  have hread : ∀ t ∈ qj4 i.i, qa5 E t = qa5 E2 t := fun t ht => hE t (by
   rw [memd _ _ i];rintro (⟨j, hj, hd⟩ | h)
   ·exact ho1 j hj t hd ht
   ·cases h)
  have ht' : qwB E H2 i.i.op = some tv := by rw [← ht]; exact qfZ hl1 hread (fun _ _ _ _ _ _ _ => rfl)
  have hK : qt9 X inl true 2000 (qd9 × HpT × Nat) E H2 [i] [] [] c (fun e h c => some (e, h, c)) = some (qsC i.i.dst (unU tv) [], [], c) := by
   simp only [qt9, hg];rw [show evT ([] ++ E) = evT E from rfl, show qnK ([] ++ E) = qnK E from rfl, qqY hl1 (by exact ht'), fU_eq]
  obtain ⟨e', h', c', σ', s', q1, q2, q3, q4, q5⟩ := qcU (ns := ns) hC hns 2000 _ E H2 [i] [] [] c _ _ hK (σ := σ) (s := s) (R := R) hS (fun j hj => hd j (by simp at hj; simp [hj])) (fun j hj => by
   simp only [List.mem_singleton] at hj; subst hj; simp only [qfX, hdst]) (La ++ b) hnd hN
  simp only [Option.some.injEq, Prod.mk.injEq] at q4;obtain ⟨rfl, rfl, rfl⟩ := q4;rw [hdst] at q2
  obtain ⟨E', σ'', s'', r1, r2, r3, r4, r5⟩ := zb2 (inl := inl) hC hns La b ([(d, unU tv)] ++ E) s' σ' q2 (fun j hj dj hdj => by rw [q3]; exact hd j (by simp [hj]) dj hdj) (fun j hj => hl j (by simp [hj])) ho2 hnd.2 q5 (fun t ht => by
   show qa5 ((d, unU tv) :: E) t = _;rw [qb7];split
   ·rename_i e; subst e; exact hs1 hl1 tv t hdst (by assumption)
   ·rename_i e
    refine hE t ?_
    rw [memd _ _ i];rintro (⟨j, hj, hdj⟩ | h)
    ·rcases List.mem_cons.1 hj with rfl | hj
     ·rw [hdst] at hdj; cases hdj; exact e rfl
     ·exact ht ((memd _ _ i _).2 (.inl ⟨j, hj, hdj⟩))
    ·cases h)
  refine ⟨E', σ'', s'', ?_, r2, r3.trans q3, r4, r5⟩;simp only [qf8] at q1 ⊢;simp only [run] at q1 ⊢;split at q1
  ·rename_i s1 hs1
   cases q1;exact r1
  ·cases q1
end
theorem qy4 : ∀ {l : List TIns}, qiG l = true->ND l/\∀ i ∈ l, qfX i = true
 | [], _ => ⟨trivial, by simp⟩
 | i :: l, h => by
  have mem : ∀ {l : List TIns} {d : Nat} {x : TIns}, x ∈ l->x.i.dst = some d->d ∈ qf7 l [] := by
   intro l
   induction l with
   | nil => intro d x hx; cases hx
   | cons y l ih =>
    intro d x hx hd;unfold qf7;rcases List.mem_cons.1 hx with rfl | hx
    ·rw [hd]; simp
    ·have := ih hx hd
     split
     ·exact List.mem_cons_of_mem _ this
     ·exact this
  simp only [qiG, Bool.and_eq_true] at h;obtain ⟨h1, h2⟩ := qy4 h.2;refine ⟨⟨fun d hd x hx hxd => ?_, h1⟩, fun x hx => ?_⟩
  ·have h3 := h.1
   rw [hd] at h3;simp only [Bool.not_eq_true'] at h3;have := mem hx hxd;simp [this] at h3
  ·rcases List.mem_cons.1 hx with rfl | hx
   ·have h3 := h.1
    unfold qfX
    split at h3 <;> first
     | (rename_i e; rw [e]; done)
     | (rename_i e1 e2; rw [e1, e2]; done)
     | (cases h3; done)
     | (simp_all; done)
   ·exact h2 x hx
theorem qhI {n : Nat} : ∀ {l : List TIns}, ltO n l = true->∀ i ∈ l, ∀ d, i.i.dst = some d->d < n
 | [], _, i, hi => by cases hi
 | k :: l, h, i, hi => by
  simp only [ltO, Bool.and_eq_true] at h;rcases List.mem_cons.1 hi with rfl | hi
  ·intro d hd
   rw [hd] at h;exact qg3 h.1
  ·exact qhI h.2 i hi
theorem qqZ : ∀ (l : List (Nat × AV)) (ts : List Nat), Has l (ts.map fun t => (t, look l t))
 | _, [] => trivial
 | l, _ :: ts => ⟨rfl, qqZ l ts⟩
theorem qrA (l : List (Nat × AV)) : ∀ (ts : List Nat) (t : Nat), look (ts.map fun t => (t, look l t)) t = if t ∈ ts then look l t else .junk
 | [], t => by simp [look]
 | a :: ts, t => by
  simp only [List.map_cons, look, qrA l ts, List.mem_cons];by_cases e : a = t
  ·subst e; simp
  ·rw [if_neg e]
   have : ¬ t = a := fun h => e h.symm
   simp [this]
def qgA : AV->AV
 | .may true z => z
 | x => x
theorem quH {B : Id->Prop} {n : Nat} {l : List (Nat × AV)} {H : Hp} (ks : List Nat) : Sub B ⟨⟨n, l⟩, H⟩ ⟨⟨n, ks.map fun t => (t, qgA (look l t))⟩, H⟩ := by
 have qa0 : ∀ (ks : List Nat) (t : Nat), look (ks.map fun t => (t, qgA (look l t))) t = if t ∈ ks then qgA (look l t) else .junk := by
  intro ks t
  induction ks with
  | nil => simp [look]
  | cons a ks ih =>
   simp only [List.map_cons, look, ih, List.mem_cons];by_cases e : a = t
   ·subst e; simp
   ·rw [if_neg e]
    have : ¬ t = a := fun h => e h.symm
    simp [this]
 intro J F w a hE hH;refine ⟨J, F, ⟨hE.1, fun t v h1 => ?_, fun t ht => ?_⟩, hH, Ext0.refl _ _ _⟩
 ·simp only [qa0]
  split
  ·have := hE.2.1 t v h1
   simp only at this;generalize look l t = x at this;cases x <;> try exact this
   rename_i c z;cases c
   ·exact this
   ·cases this with
    | may _ _ _ h _ => exact h rfl
  ·exact .junk _
 ·have := hE.2.2 t ht
  simp only at this;simp only [qa0];split
  ·rw [this]; rfl
  ·rfl
theorem qhJ (l : List (Nat × AV)) : ∀ (ks : List Nat) (t : Nat), look (ks.map fun t => (t, qgA (look l t))) t = if t ∈ ks then qgA (look l t) else .junk
 | [], t => by simp [look]
 | a :: ks, t => by
  simp only [List.map_cons, look, qhJ l ks, List.mem_cons];by_cases e : a = t
  ·subst e; simp
  ·rw [if_neg e]
   have : ¬ t = a := fun h => e h.symm
   simp [this]
theorem qy5 {σ : Nat->Option Id} {H : HpT} {x : TV} {y : AV} (h : VRm σ H x y) : VR σ H x (qgA y) := by
 rcases h with h | ⟨z, rfl, h, _⟩
 ·cases y with
  | may c z =>
   cases c with
   | false => exact h
   | true =>
    cases h with
    | junk => exact .junk _
  | _ => exact h
 ·exact h
theorem zb3 {E : qd9} {H : HpT} {D : List Nat} : ∀ {L : List (Nat × Nat)}, clsB E H D L = true->∀ p ∈ L, p.1 ∈ D\/(p.1 = p.2/\((∃ i o ci, qa5 E p.1 = .box i o/\qa0 H i = some (.box ci))\/∃ s x o, qa5 E p.1 = .pt s x o))
 | [], _, p, hp => by cases hp
 | (t, c) :: l, h, p, hp => by
  simp only [clsB, Bool.and_eq_true, Bool.or_eq_true] at h;rcases List.mem_cons.1 hp with rfl | hp
  ·rcases h.1 with h1 | ⟨h1, h2⟩
   ·exact .inl (by simpa using h1)
   ·refine .inr ⟨qb2 h1, ?_⟩
    simp only;split at h2
    ·rename_i i o he
     split at h2
     ·rename_i ci hc; exact .inl ⟨i, o, ci, he, hc⟩
     ·cases h2
    ·rename_i s x o he; exact .inr ⟨s, x, o, he⟩
    ·cases h2
  ·exact zb3 h.2 p hp
theorem qxI {X : Cx} {E : qd9} {H : HpT} {ops : List TIns} {r1 r2 r : Rgn} (h : zr5 X E H ops r1 r2 = some r) : (r = r1\/r = r2)/\rgnB X E H ops r = true := by
 unfold zr5 at h;split at h
 ·rename_i h1
  cases h;exact ⟨.inl rfl, h1⟩
 ·split at h
  ·rename_i h1
   cases h;exact ⟨.inr rfl, h1⟩
  ·cases h
theorem quI {E : qd9} {D : List Nat} : ∀ {l : List Nat}, eltsB E D l = true->∀ t ∈ l, t ∈ D\/(∃ i j o, qa5 E t = .elt i j o)\/∃ s x o, qa5 E t = .pt s x o
 | [], _, t, ht => by cases ht
 | k :: l, h, t, ht => by
  simp only [eltsB, Bool.and_eq_true, Bool.or_eq_true] at h;rcases List.mem_cons.1 ht with rfl | ht
  ·rcases h.1 with h1 | h1
   ·exact .inl (by simpa using h1)
   ·split at h1
    ·rename_i he; exact .inr (.inl ⟨_, _, _, he⟩)
    ·rename_i he; exact .inr (.inr ⟨_, _, _, he⟩)
    ·cases h1
  ·exact quI h.2 t ht
theorem LibK.beq_eq {a b : LibK} (h : a.beq b = true) : a = b := by
 cases a <;> cases b <;> simp only [LibK.beq, Bool.and_eq_true, reduceCtorEq] at h
 ·rw [qb2 h.1, qb2 h.2]
 ·rw [qb2 h.1, qb2 h.2]
 ·rw [qb2 h]
 ·rw [qb2 h.1, qb2 h.2]
theorem zt5 {X : Cx} : ∀ {l : List (FuncId × LibK)}, lbB X l = true->∀ p ∈ l, X.ct p.1 = none/\∃ sh, X.lb p.1 = some (p.2, sh)
 | [], _, p, hp => by cases hp
 | (f, k) :: l, h, p, hp => by
  simp only [lbB, Bool.and_eq_true] at h;rcases List.mem_cons.1 hp with rfl | hp
  ·have h1 := h.1
   split at h1
   ·rename_i k' sh e1 e2
    have := LibK.beq_eq h1;subst this;exact ⟨e2, sh, e1⟩
   ·cases h1
  ·exact zt5 h.2 p hp
theorem quJ {E : qd9} {H : HpT} {D AL : List Nat} : ∀ {L : List (Nat × Nat)}, needB E H D AL L = true->∀ p ∈ L, (p.1 ∈ AL/\p.2 ∈ AL/\p.1 ≠ p.2)\/(p.1 ∉ AL/\p.2 ∈ AL/\∃ i o ci, qa5 E p.1 = .box i o/\qa0 H i = some (.box ci))\/(p.1 ∈ AL/\p.2 ∉ AL/\∃ i o ci, qa5 E p.2 = .box i o/\qa0 H i = some (.box ci)) ∨
  (p.1 ∉ AL/\p.2 ∉ AL/\∃ i o j o' ci cj, qa5 E p.1 = .box i o/\qa5 E p.2 = .box j o'/\i ≠ j/\qa0 H i = some (.box ci)/\qa0 H j = some (.box cj))
 | [], _, p, hp => by cases hp
 | (c, d) :: l, h, p, hp => by
  simp only [needB, Bool.and_eq_true] at h;rcases List.mem_cons.1 hp with rfl | hp
  ·have h1 := h.1
   have no : ∀ {x : Nat}, AL.elem x = false->x ∉ AL := fun {x} h hm => by
    have : AL.elem x = true := by simpa using hm
    rw [h] at this; cases this
   have yes : ∀ {x : Nat}, AL.elem x = true->x ∈ AL := fun {x} h => by simpa using h
   simp only;split at h1
   ·rename_i e1 e2
    refine .inl ⟨yes e1, yes e2, fun e => ?_⟩;subst e;rw [Nat.beq_refl] at h1;cases h1
   ·rename_i e1 e2
    split at h1
    ·rename_i i o he
     split at h1
     ·rename_i ci hc
      exact .inr (.inl ⟨no e1, yes e2, i, o, ci, he, hc⟩)
     ·cases h1
    ·cases h1
   ·rename_i e1 e2
    split at h1
    ·rename_i i o he
     split at h1
     ·rename_i ci hc
      exact .inr (.inr (.inl ⟨yes e1, no e2, i, o, ci, he, hc⟩))
     ·cases h1
    ·cases h1
   ·rename_i e1 e2
    split at h1
    ·rename_i i o j o' q1 q2
     rw [Bool.and_eq_true] at h1;obtain ⟨h2, h3⟩ := h1;split at h3
     ·rename_i ci cj g1 g2
      exact .inr (.inr (.inr ⟨no e1, no e2, i, o, j, o', ci, cj, q1, q2, (fun e => by subst e; rw [Nat.beq_refl] at h2; cases h2), g1, g2⟩))
     ·cases h3
    ·cases h1
  ·exact quJ h.2 p hp
section
variable {P : Program} {C : FuncId->Con} {B : Id->Prop} {X : Cx} {inl : Inl}
theorem zt6 {x : ACode} {Q : Exit->St->Prop} {s : St} (h : WP P C B x (fun r s' => ∃ s'', Sub B s' s''/\Q r s'') s) : WP P C B x Q s :=
 fun hC c hc J0 F0 w0 d0 a w Q' hS hQ => h hC c hc J0 F0 w0 d0 a w Q' hS fun e s' a' w' h1 ⟨s'', h2, h3⟩ => hQ e s'' a' w' (h1.sub h2) h3
theorem S9.eqv {σ : Nat->Option Id} {E : qd9} {H : HpT} {c : Nat} {s s' : St} {R : List (TV × AV)} (h : S9 σ E H c s R) (he : Eqv s' s) : S9 σ E H c s' R :=
 ⟨by rw [he.H]; exact h.sh, fun t => by rw [he.look]; exact h.env t, h.rel⟩
theorem qi1 : ∀ l : List TIns, qf8 l = l.map (·.i)
 | [] => rfl
 | i :: l => by simp only [qf8, List.map_cons, qi1 l]
theorem zt7 {ops a b : List TIns} {i : TIns} {ct : Option Nat} {c : Nat} (h : qtP X ops ct = some (c, a, i, b)) : ct = some c/\(qf8 ops)[c]? = some i.i/\(qf8 ops).take c = qf8 a/\(qf8 ops).drop (c + 1) = qf8 b/\ops = a ++ i :: b/\c < 1000 := by
 unfold qtP at h;split at h
 ·cases h
 ·rename_i c0
  split at h
  ·cases h
  ·rename_i hb
   split at h
   ·cases h
   ·rename_i i' b' hd
    split at h
    ·cases h
     refine ⟨rfl, ?_, ?_, ?_, ?_, by simpa [Nat.blt_eq] using hb⟩
     ·rw [qi1, List.getElem?_map]
      have : ops[c]? = some i := by rw [← List.head?_drop, hd]; rfl
      rw [this]; rfl
     ·rw [qi1, qi1, List.map_take]
     ·have : ops.drop (c + 1) = b := by rw [← List.drop_drop, hd]; rfl
      rw [qi1, qi1, ← List.map_drop, this]
     ·conv => lhs; rw [← List.take_append_drop c ops, hd]
    ·cases h
theorem zt8 (hC : qsD false X C) (hF : qxD X C) (hI : zs5 P C inl) {ac : ACode} {ops a b : List TIns} {i : TIns} {ct : Option Nat} {c : Nat} (hcut : qtP X ops ct = some (c, a, i, b))
  (hinv : ∀ cd, qm1 P cd = some ac->∃ id opsA, cd = .region id opsA true/\qk2 P opsA opsA.toList = some (qf8 ops)/\ct = qlF P opsA (qf8 ops)/\P.follows .mixedOrders = true) {s : St} {R : List (TV × AV)} (hlt : ltO s.env.n ops = true)
  {ρ : Type} {Es : qd9} {Hs : HpT} {e : qd9} {h : HpT} {c0 : Nat} {K : KT ρ} {r : ρ} (hK : exC X inl ρ Es Hs a i b e h c0 K = some r) {σ : Nat->Option Id} (hS : S9 σ (e ++ Es) (h ++ Hs) c0 s R) {Q : Exit->St->Prop}
  (hQ : ∀ e' h' c' σ' s', S9 σ' (e' ++ Es) (h' ++ Hs) c' s' R->s'.env.n = s.env.n->K e' h' c' = some r->Q .normal s') : WP P C B ac Q s := by
 obtain ⟨rfl, g1, g2, g3, rfl, gl⟩ := zt7 hcut;unfold exC at hK;split at hK
 ·rename_i hdr
  rw [Bool.and_eq_true] at hdr;obtain ⟨nda, nma⟩ := qy4 hdr.1;obtain ⟨ndb, nmb⟩ := qy4 hdr.2;have hmem := qhI hlt;obtain ⟨ns, hns, hfr⟩ := hS.sh.news;obtain ⟨e1, h1, c1, σ1, s1, q1, q2, q3, q4, _⟩ := qcU hF.1 hns 2000 ρ Es Hs a e h c0 _ r hK hS (fun i hi => hmem i (by simp [hi])) nma [] (by rwa [List.append_nil]) (by rw [List.append_nil]; exact fun i _ d _ => hfr d);refine WP_cut (ns := ns) (c := c) (mi := i.i) (s1 := s1) gl hinv g1 (by rw [g2]; exact q1) fun sf hsf => ?_
  have hS1 := q2.eqv hsf;have hn1 : sf.env.n = s.env.n := hsf.n.trans q3
  have := qqW (B := B) hC hI 2000 ρ Es Hs [i] e1 h1 c1 _ r q4 hS1 (fun j hj d hd => by rw [hn1]; exact hmem j (by simp at hj; simp [hj]) d hd) [] (fun s2 => ∃ ns2 s3, run (qf2 C) ns2 ((qf8 (a ++ i :: b)).drop (c + 1)) s2 = some s3/\∀ s3', Eqv s3' s3->Q .normal s3') (fun e2 h2 c2 σ2 s2 p1 p2 p3 => zq5 (by
   obtain ⟨ns2, hns2, hfr2⟩ := p1.sh.news;obtain ⟨e3, h3, c3, σ3, s3, r1, r2, r3, r4, _⟩ := qcU hF.1 hns2 2000 ρ Es Hs b e2 h2 c2 _ r p3 p1 (fun j hj d hd => by rw [p2, hn1]; exact hmem j (by simp [hj]) d hd) nmb [] (by rwa [List.append_nil]) (by rw [List.append_nil]; exact fun i _ d _ => hfr2 d);exact ⟨ns2, s3, by rw [g3]; exact r1, fun s3' heq => hQ e3 h3 c3 σ3 s3' (r2.eqv heq) (heq.n.trans (r3.trans (p2.trans hn1))) r4⟩))
  simpa [qf8] using this
 ·cases hK
theorem zh8 {ops a b : List TIns} {i : TIns} {ct : Option Nat} {c : Nat} (h : qqR X ops ct = some (c, a, i, b)) : ct = some (c + 1000)/\(qf8 ops)[c]? = some i.i/\(qf8 ops).take c = qf8 a/\(qf8 ops).drop (c + 1) = qf8 b/\ops = a ++ i :: b/\wild X i = true := by
 unfold qqR at h;split at h
 ·cases h
 ·rename_i c0
  split at h
  ·cases h
  ·rename_i hb
   have hb : 1000<=c0 := by simpa using hb
   split at h
   ·cases h
   ·rename_i i' b' hd
    split at h
    ·rename_i hw
     simp only [Option.some.injEq, Prod.mk.injEq] at h;obtain ⟨rfl, rfl, rfl, rfl⟩ := h;refine ⟨by rw [show c0 - 1000 + 1000 = c0 by omega], ?_, ?_, ?_, ?_, hw⟩
     ·rw [qi1, List.getElem?_map]
      have : ops[c0 - 1000]? = some i' := by rw [← List.head?_drop, hd]; rfl
      rw [this]; rfl
     ·rw [qi1, qi1, List.map_take]
     ·have : ops.drop (c0 - 1000 + 1) = b' := by rw [← List.drop_drop, hd]; rfl
      rw [qi1, qi1, ← List.map_drop, this]
     ·conv => lhs; rw [← List.take_append_drop (c0 - 1000) ops, hd]
    ·cases h
theorem qpA : ∀ {l : List TIns}, ND l ↔ l.Pairwise fun i x => ∀ d, i.i.dst = some d->x.i.dst ≠ some d
 | [] => by simp [ND]
 | i :: l => by
  rw [List.pairwise_cons, ← qpA, ND];exact ⟨fun h => ⟨fun x hx d hd => h.1 d hd x hx, h.2⟩, fun h => ⟨fun d hd x hx => h.1 x hx d hd, h.2⟩⟩
theorem zt9 {l m : List TIns} (h : l.Sublist m) (hm : ND m) : ND l := qpA.2 ((qpA.1 hm).sublist h)
theorem ordT_sub {l m : List TIns} (h : l.Sublist m) : ordT m = true->ordT l = true := by
 induction h with
 | slnil => exact id
 | cons i h ih =>
  intro hm;exact ih (qjR hm).2
 | cons_cons i h ih =>
  intro hm;obtain ⟨h1, h2⟩ := qjR hm;simp only [ordT, Bool.and_eq_true];refine ⟨List.all_eq_true.2 fun j hj => ?_, ih h2⟩;cases hd : j.i.dst with
  | none => rfl
  | some d =>
   have := h1 j (by
    rcases List.mem_cons.1 hj with rfl | hj
    ·simp
    ·exact List.mem_cons_of_mem _ (h.subset hj)) d hd
   simpa using this
theorem zb4 {D : FuncId->Con} {ns : Id} : ∀ {L : List AIns} {s sf : St}, (∀ x ∈ L, qx1 x = true)->run D ns L s = some sf->sf.H = s.H/\sf.env.n = s.env.n/\∀ t, (∀ x ∈ L, x.dst ≠ some t)->look sf.env.l t = look s.env.l t
 | [], s, sf, _, h => by cases h; exact ⟨rfl, rfl, fun _ _ => rfl⟩
 | i :: L, s, sf, hl, h => by
  simp only [run] at h;split at h
  ·rename_i s1 hs
   obtain ⟨q1, q2, q3⟩ := zb4 (fun x hx => hl x (by simp [hx])) h;obtain ⟨x, H, he, rfl⟩ := qaE hs;obtain ⟨hg, _, ho⟩ := qbW (hl i (by simp))
   have hc : qaC i.op = true := by
    rcases ho with ⟨_, e⟩ | ⟨_, e⟩ | ⟨_, _, e⟩ | ⟨_, _, _, e⟩ <;> rw [e] <;> rfl
   have hH : H = s.H := by
    unfold eff at he;rw [hg] at he;simp only [gv, qv7, hc, hg, Option.isSome_none, Bool.and_false, Bool.false_eq_true, if_false, cond_true] at he;exact qsU hc he
   refine ⟨by rw [q1]; exact hH, by rw [q2]; exact zn5 _ _ _, fun t ht => ?_⟩;rw [q3 t fun x hx => ht x (by simp [hx])];simp only [qt2];rw [if_neg];rintro ⟨h1, _⟩;exact ht i (by simp) h1
  ·cases h
theorem qbX {l : List TIns} {m : List Nat} {d : Nat} : d ∈ qf7 l m ↔ (∃ j ∈ l, j.i.dst = some d)\/d ∈ m := by
 induction l with
 | nil => simp [qf7]
 | cons k l ih =>
  simp only [qf7];cases hk : k.i.dst with
  | none => simp only [List.mem_cons, exists_eq_or_imp, hk, reduceCtorEq, false_or]; exact ih
  | some dk =>
   simp only [List.mem_cons, exists_eq_or_imp, hk, Option.some.injEq];rw [ih];constructor
   ·rintro (h | h | h)
    ·exact .inl (.inl h.symm)
    ·exact .inl (.inr h)
    ·exact .inr h
   ·rintro ((h | h) | h)
    ·exact .inl h.symm
    ·exact .inr (.inl h)
    ·exact .inr (.inr h)
theorem zb5 {E : qd9} {H : HpT} {D : List Nat} : ∀ {L : List (Nat × Nat)}, clsM E H D L = true->∀ p ∈ L, p.1 ∈ D\/(∃ i o o' ci, qa5 E p.1 = .box i o/\qa5 E p.2 = .box i o'/\qa0 H i = some (.box ci))\/∃ s x o, qa5 E p.1 = .pt s x o
 | [], _, p, hp => by cases hp
 | (t, c) :: l, h, p, hp => by
  simp only [clsM, Bool.and_eq_true, Bool.or_eq_true] at h;rcases List.mem_cons.1 hp with rfl | hp
  ·rcases h.1 with h1 | h2
   ·exact .inl (by simpa using h1)
   ·refine .inr ?_
    simp only;split at h2
    ·rename_i i o he
     split at h2
     ·rename_i j o' ci e1 e2
      cases qb2 h2;exact .inl ⟨i, o, o', ci, he, e1, e2⟩
     ·cases h2
    ·rename_i s x o he; exact .inr ⟨s, x, o, he⟩
    ·cases h2
  ·exact zb5 h.2 p hp
theorem quK {E : qd9} {H : HpT} : ∀ {L : List (Nat × Nat)}, needM E H L = true->∀ p ∈ L, ∃ i o j o' ci cj, qa5 E p.1 = .box i o/\qa5 E p.2 = .box j o'/\i ≠ j/\qa0 H i = some (.box ci)/\qa0 H j = some (.box cj)
 | [], _, p, hp => by cases hp
 | (c, d) :: l, h, p, hp => by
  simp only [needM, Bool.and_eq_true] at h;rcases List.mem_cons.1 hp with rfl | hp
  ·have h1 := h.1
   split at h1
   ·rename_i i o j o' e1 e2
    rw [Bool.and_eq_true] at h1;obtain ⟨h2, h3⟩ := h1;split at h3
    ·rename_i ci cj g1 g2
     exact ⟨i, o, j, o', ci, cj, e1, e2, (fun e => by subst e; rw [Nat.beq_refl] at h2; cases h2), g1, g2⟩
    ·cases h3
   ·cases h1
  ·exact quK h.2 p hp
theorem quL {E : qd9} {i : TIns} {n x b o : Nat} {agg : Bool} : ∀ {a : List TIns}, i ∈ a->i.i.op = .r (.load n agg (.t x))->qa5 E x = .box b o->b ∈ qt3 E a
 | [], hi, _, _ => by cases hi
 | j :: a, hi, ho, hx => by
  rcases List.mem_cons.1 hi with rfl | hi
  ·simp only [qt3, ho, hx, List.mem_cons, true_or]
  ·have := quL hi ho hx
   unfold qt3;split
   ·split
    ·exact List.mem_cons_of_mem _ this
    ·exact this
   ·exact this
theorem quM (ids : List Nat) (h Hs : HpT) (i : Nat) : qa0 (qk8 ids h ++ (qaK ids h ++ Hs)) i = qa0 (h ++ Hs) i := by
 rw [qa1, qa1, qa1, qeP, qaR];by_cases hi : i ∈ ids
 ·simp [hi]
 ·simp [hi]
theorem opK_wild {X' : Cx} {dr : Bool} {Hs : HpT} {E E' : qd9} {ty : Option Sh} {i : TIns} (hw : wild X i = true) (h : ∀ t ∈ qj4 i.i, qa5 E' t = qa5 E t) (h0 : HpT) (c : Nat) {ρ : Type} (K : TV->HpT->Nat->Option ρ) :
  opK X' inl dr Hs (evT E') (qnK E') ty i.i.op h0 c K = opK X' inl dr Hs (evT E) (qnK E) ty i.i.op h0 c K := by
 have ev : ∀ x ∈ qgP i.i.op, evT E' x = evT E x := by
  intro x hx;cases x with
  | c d => rfl
  | t n =>
   have : n ∈ qj4 i.i := by simp only [qj4, List.mem_append, List.mem_filterMap]; exact .inl ⟨.t n, hx, rfl⟩
   simp only [evT, h n this]
 unfold wild at hw;split at hw
 ·rename_i f args e
  rw [e] at ev ⊢;simp only [qgP, qiV] at ev;simp only [opK, qfQ];rw [List.map_congr_left ev]
 ·rename_i x args e
  rw [e] at ev ⊢;simp only [qgP, qiV, List.mem_cons, forall_eq_or_imp] at ev;simp only [opK, qfQ];rw [List.map_congr_left ev.2, ev.1]
 ·cases hw
theorem zb6 {X : Cx} {inl : Inl} {dr : Bool} {n : Nat} {ρ : Type} {Es : qd9} {Hs : HpT} {i : TIns} {e : qd9} {h : HpT} {c : Nat} {K : KT ρ} (hg : i.i.guard = none) :
  qt9 X inl dr (n + 2) ρ Es Hs [i] e h c K = opK X inl dr Hs (evT (e ++ Es)) (qnK (e ++ Es)) i.ty i.i.op h c fun x h c => K (qsC i.i.dst (unU x) e) h c := by
 simp only [qt9, hg, fU_eq]
open Classical in
theorem exM_rel (hC : qsD false X C) (hF : qxD X C) (hI : zs5 P C inl) {ac : ACode} {ops a b : List TIns} {i : TIns} {ct : Option Nat} {c : Nat} {r1 : Rgn} (hcut : qqR X ops ct = some (c, a, i, b))
  (hinv : ∀ cd, qm1 P cd = some ac->∃ id opsA, cd = .region id opsA true/\qk2 P opsA opsA.toList = some (qf8 ops)/\ct = qlF P opsA (qf8 ops)/\P.follows .mixedOrders = true/\r1 = qtA P opsA (qf8 ops)) {s : St} {R : List (TV × AV)} (hlt : ltO s.env.n ops = true)
  {ρ : Type} {Es : qd9} {Hs : HpT} {e : qd9} {h : HpT} {c0 : Nat} {K : KT ρ} {r : ρ} (hK : exM X inl r1.L r1.needs ρ Es Hs a i b e h c0 K = some r) {σ : Nat->Option Id} (hS : S9 σ (e ++ Es) (h ++ Hs) c0 s R) {Q : Exit->St->Prop}
  (hQ : ∀ e' h' c' σ' s', S9 σ' (e' ++ Es) (h' ++ Hs) c' s' R->s'.env.n = s.env.n->K e' h' c' = some r->Q .normal s') : WP P C B ac Q s := by
 obtain ⟨rfl, g1, g2, g3, rfl, hw⟩ := zh8 hcut;unfold exM at hK;split at hK
 ·rename_i hdr
  simp only [Bool.and_eq_true, Option.isNone_iff_eq_none] at hdr;obtain ⟨⟨hdr, hcalm, hord⟩, hig, hfree⟩ := hdr;obtain ⟨ndA, nmA⟩ := qy4 hdr;have nda : ND a := zt9 (List.sublist_append_left _ _) ndA;have hmem := qhI hlt;obtain ⟨ns, hns, hfr⟩ := hS.sh.news
  have hfree' : ∀ k ∈ i :: b, ∀ d, k.i.dst = some d->∀ j ∈ a, d ∉ qj4 j.i := by
   intro k hk d hd j hj;have := List.all_eq_true.1 hfree k hk;unfold freeT at this;rw [hd] at this;have := List.all_eq_true.1 this j hj;simpa using this
  have hK' := hK
  rw [calm_run 2000 a [] e hcalm hord nda (by simp) (by simp) (K' := fun e1 h1 c1 => if h1 = h/\c1 = c0/\∀ j ∈ a, Seen (e1 ++ Es) (h1 ++ Hs) j then exM2 X inl r1.L r1.needs ρ Es Hs a i b K e1 h1 c1 else none) (fun e1 he => by
    rw [if_pos ⟨rfl, rfl, fun j hj => he j (.inr hj)⟩])] at hK'
  obtain ⟨e1, h1, c1, σ1, s1, q1, q2, q3, q4, _⟩ := qcU hF.1 hns 2000 ρ Es Hs a e h c0 _ r hK' hS (fun i hi => hmem i (by simp [hi])) (fun j hj => nmA j (by simp [hj])) [] (by rwa [List.append_nil]) (by rw [List.append_nil]; exact fun i _ d _ => hfr d);split at q4
  ·rename_i hseen
   obtain ⟨rfl, rfl, hseen⟩ := hseen;unfold exM2 at q4;split at q4
   ·rename_i hall
    simp only [qbS] at q4
    obtain ⟨d, hd⟩ : ∃ d, i.i.dst = some d := by
     have := nmA i (by simp);unfold qfX at this;cases hdst : i.i.dst with
     | some d => exact ⟨d, rfl⟩
     | none =>
      rw [hdst] at this;unfold wild at hw;split at hw
      ·rename_i e; rw [e] at this; cases this
      ·rename_i e; rw [e] at this; cases this
      ·cases hw
    refine WP_cutM (ns := ns) (c := c) (mi := i.i) (s1 := s1) (r := ⟨r1.L, [], [], r1.needs, [], []⟩) (fun cd hcd => ?_) g1 (by rw [g2]; exact q1) fun L sp sf hL hlk hrun heq => ?_
    ·obtain ⟨id, opsA, h1, h2, h3, h4, h5⟩ := hinv cd hcd
     refine ⟨id, opsA, h1, h2, h3, ?_, h4⟩;unfold rgnC;rw [h5]
    ·rw [g2, qi1] at hL
     obtain ⟨La, hLa, rfl⟩ := List.sublist_map_iff.1 hL;have hlk1 : ∀ x ∈ La, qx1 x.i = true := fun x hx => (hlk x.i (List.mem_map.2 ⟨x, hx, rfl⟩)).1
     have hlk2 : ∀ x ∈ La, ∀ dx, x.i.dst = some dx->dx ∉ qj4 i.i := fun x hx dx hdx => by
      have := (hlk x.i (List.mem_map.2 ⟨x, hx, rfl⟩)).2;unfold qwS at this;rw [hdx] at this;simpa using this
     obtain ⟨rH, rn, rl⟩ := zb4 (fun x hx => (hlk x hx).1) hrun;have hspH : sp.H = s1.H := by rw [← rH]; exact heq.H
     have hspn : sp.env.n = s1.env.n := by rw [← rn]; exact heq.n
     have hS0 : S9 σ1 (qj6 (qf7 La []) e1 ++ Es) (h1 ++ Hs) c1 sp R := by
      refine ⟨by rw [hspH]; exact q2.sh, fun t => ?_, q2.rel⟩;rw [qf3];split
      ·exact .inl (.junk _)
      ·rename_i ht
       have : look sp.env.l t = look s1.env.l t := by
        rw [← heq.look, rl t];intro x hx e;obtain ⟨y, hy, rfl⟩ := List.mem_map.1 hx;exact ht (qbX.2 (.inl ⟨y, hy, e⟩))
       rw [this];exact q2.env t
     have hS0' : S9 σ1 (qj6 (qf7 La []) e1 ++ Es) (qk8 (qt3 (e1 ++ Es) a) h1 ++ (qaK (qt3 (e1 ++ Es) a) h1 ++ Hs)) c1 sp R := hS0.congr (fun _ => rfl) (fun j => quM _ _ _ _)
     -- the call, from where some has not been looked at yet
     let Kc : KT ρ := exM1 X inl r1.L r1.needs ρ Es Hs (qt3 (e1 ++ Es) a) (qaK (qt3 (e1 ++ Es) a) h1) b K
     let Kd : KT ρ := fun e2 h2 c2 => if ∃ x, e2 = (d, x) :: qj6 (qf7 La []) e1 then Kc ((d, qa5 e2 d) :: e1) h2 c2 else none
     have hKd : qt9 X inl false 2000 ρ Es (qaK (qt3 (e1 ++ Es) a) h1 ++ Hs) [i] (qj6 (qf7 La []) e1) (qk8 (qt3 (e1 ++ Es) a) h1) c1 Kd = some r := by
      rw [← q4]
      refine (zb6 (n := 1998) hig).trans ((opK_wild hw (E := e1 ++ Es) (fun t ht => by
       rw [qf3, if_neg];intro hm;rcases qbX.1 hm with ⟨j, hj, hdj⟩ | hm
       ·exact hlk2 j hj t hdj ht
       ·cases hm) _ _ _).trans (Eq.trans ?_ (zb6 (n := 1998) hig).symm))
      refine congrArg (opK X inl false (qaK (qt3 (e1 ++ Es) a) h1 ++ Hs) (evT (e1 ++ Es)) (qnK (e1 ++ Es)) i.ty i.i.op (qk8 (qt3 (e1 ++ Es) a) h1) c1) (funext fun x => funext fun h2 => funext fun c2 => ?_);simp only [hd, qsC, Kd];rw [if_pos ⟨_, rfl⟩, qb7, if_pos rfl]
     have hn1 : sp.env.n = s.env.n := hspn.trans q3
     have := qqW (B := B) hC hI 2000 ρ Es (qaK (qt3 (e1 ++ Es) a) h1 ++ Hs) [i] (qj6 (qf7 La []) e1) (qk8 (qt3 (e1 ++ Es) a) h1) c1 _ r hKd hS0' (fun j hj d hd => by rw [hn1]; exact hmem j (by simp at hj; simp [hj]) d hd) []
      (fun s2 => ∃ s2', Sub B s2 s2'/\∃ ids, InvB r1.L [] ids s2'/\(∀ p ∈ r1.needs, ids p.1 ≠ ids p.2)/\∃ ns2 s3, run (qf2 C) ns2 (La.map (·.i) ++ (qf8 (a ++ i :: b)).drop (c + 1)) s2' = some s3/\∀ s3', Eqv s3' s3->Q .normal s3') (fun e2 h2 c2 σ2 s2 p1 p2 p3 => zq5 (by
       simp only [Kd] at p3;split at p3
       ·rename_i hx
        obtain ⟨x, rfl⟩ := hx;rw [qb7, if_pos rfl] at p3;simp only [Kc, exM1, qbS] at p3;split at p3
        ·rename_i hchk
         simp only [Bool.and_eq_true] at hchk;obtain ⟨hap, hcls, hneed⟩ := hchk;have hkey : ∀ j ∈ qt3 (e1 ++ Es) a, qa0 h2 j = none := fun j hj => qu1 (qfY hap j hj)
         have hn2 : s2.env.n = s.env.n := p2.trans hn1
         -- what is not known is forgotten
         let D := qf7 b [] ++ qf7 La []
         let ks := (qe9 (((d, x) :: qj6 (qf7 La []) e1) ++ Es)).filter fun t => !(D.elem t)
         let s2' : St := ⟨⟨s2.env.n, ks.map fun t => (t, qgA (look s2.env.l t))⟩, s2.H⟩
         have hks : ∀ t, t ∈ ks ↔ t ∈ qe9 (((d, x) :: qj6 (qf7 La []) e1) ++ Es)/\t ∉ D := by intro t; simp [ks]
         have hlk0 : ∀ t, look s2'.env.l t = if t ∈ ks then qgA (look s2.env.l t) else .junk := fun t => qhJ s2.env.l ks t
         have hE1 : ∀ t, t ∉ qf7 La []->qa5 (((d, x) :: qj6 (qf7 La []) e1) ++ Es) t = qa5 (((d, x) :: e1) ++ Es) t := by
          intro t ht;rw [List.cons_append, List.cons_append, qb7, qb7];split
          ·rfl
          ·rw [qf3, if_neg ht]
         have hS2 : S9 σ2 (qj6 (qf7 b []) ((d, x) :: qj6 (qf7 La []) e1) ++ Es) (h2 ++ (qaK (qt3 (e1 ++ Es) a) h1 ++ Hs)) c2 s2' R := by
          refine ⟨p1.sh, fun t => ?_, p1.rel⟩;rw [qf3, hlk0];by_cases hb : t ∈ qf7 b []
          ·rw [if_pos hb]; exact .inl (.junk _)
          ·rw [if_neg hb]
           by_cases hl : t ∈ qf7 La []
           ·have : qa5 ((d, x) :: qj6 (qf7 La []) e1 ++ Es) t = .junk := by
             rw [List.cons_append, qb7, if_neg, qf3, if_pos hl];rintro rfl;rcases qbX.1 hl with ⟨j, hj, hdj⟩ | hm
             ·have := (List.pairwise_append.1 (qpA.1 ndA)).2.2 j (hLa.subset hj) i (by simp) t hdj
              exact this hd
             ·cases hm
            rw [this]; exact .inl (.junk _)
           ·by_cases hk : t ∈ qe9 (((d, x) :: qj6 (qf7 La []) e1) ++ Es)
            ·rw [if_pos ((hks t).2 ⟨hk, by simp [D, hb, hl]⟩)]; exact .inl (qy5 (p1.env t))
            ·rw [qm4 hk]; exact .inl (.junk _)
         let ids : Nat->Id := fun c => match qa5 (((d, x) :: e1) ++ Es) c with
          | .box j _ => (σ2 j).getD []
          | _ => []
         have hinv : ∀ L : List (Nat × Nat), (∀ p ∈ L, p.1 ∈ qf7 b []\/(∃ i o o' ci, qa5 (((d, x) :: e1) ++ Es) p.1 = .box i o/\qa5 (((d, x) :: e1) ++ Es) p.2 = .box i o'/\qa0 ((h2 ++ qaK (qt3 (e1 ++ Es) a) h1) ++ Hs) i = some (.box ci))\/∃ s y o, qa5 (((d, x) :: e1) ++ Es) p.1 = .pt s y o)->invT ids s2' L := by
          intro L
          induction L with
          | nil => intro _; trivial
          | cons p L ih =>
           obtain ⟨t, cc⟩ := p;intro hL;refine ⟨?_, ih (fun p hp => hL p (by simp [hp]))⟩;rw [hlk0];have hh := hL (t, cc) (by simp);by_cases hk : t ∈ ks
           ·rw [if_pos hk]
            have hD := ((hks t).1 hk).2;have hD1 : t ∉ qf7 b [] := fun h => hD (by simp [D, h])
            have hD2 : t ∉ qf7 La [] := fun h => hD (by simp [D, h])
            have hv := qy5 (p1.env t);rw [hE1 t hD2] at hv;rcases hh with hh | ⟨j, o, o', ci, he, he2, hci⟩ | ⟨sh, y, o, he⟩
            ·exact absurd hh hD1
            ·simp only at he he2
             rw [he] at hv;obtain ⟨id, hi, hy⟩ := hv.box_inv;rw [hy];rw [List.append_assoc] at hci;obtain ⟨id', ys, b1, b2, _⟩ := p1.sh.blk j _ hci;rw [hi] at b1;cases b1
             have hids : ids cc = id := by
              simp only [ids, he2, hi, Option.getD_some]
             rw [hids];exact ⟨rfl, by show qe6 (s2.H id) = true; rw [b2]; rfl⟩
            ·simp only at he
             rw [he] at hv;generalize qgA (look s2.env.l t) = z at hv;cases hv;trivial
           ·rw [if_neg hk]; trivial
         have hneeds : ∀ p ∈ r1.needs, ids p.1 ≠ ids p.2 := by
          intro p hp e;obtain ⟨j, o, k, o', cj, ck, h3, h4, h5, h6, h7⟩ := quK hneed p hp;rw [List.append_assoc] at h6 h7;obtain ⟨id1, y1, b1, b2, _⟩ := p1.sh.blk j _ h6;obtain ⟨id2, y2, b3, b4, _⟩ := p1.sh.blk k _ h7;simp only [ids, h3, h4, b1, b3, Option.getD_some] at e;subst e;exact h5 (p1.sh.inj j k id1 ⟨_, h6, by simp⟩ ⟨_, h7, by simp⟩ b1 b3)
         refine ⟨s2', quH ks, ids, zo1 (hinv _ (zb5 hcls)) trivial, hneeds, ?_⟩;obtain ⟨ns2, hns2, hfr2⟩ := hS2.sh.news;have hsubl : (La ++ b).Sublist (a ++ i :: b) := hLa.append (List.sublist_cons_self _ _)
         obtain ⟨E', σ3, s3, t1, t2, t3, t4, t5⟩ := zb2 (inl := inl) (ns := ns2) hF.1 hns2 (E2 := qj6 (qf7 b []) ((d, x) :: e1) ++ Es) La b _ s2' σ2 hS2 (fun j hj dj hdj => by
           show dj < s2.env.n;rw [hn2]; exact hmem j (by simp [hLa.subset hj]) dj hdj) (fun j hj => by
           have hja := hLa.subset hj;have hjl := hlk1 j hj
           have htv : qwB (qj6 (qf7 b []) ((d, x) :: e1) ++ Es) (h2 ++ (qaK (qt3 (e1 ++ Es) a) h1 ++ Hs)) j.i.op = qwB (e1 ++ Es) (h1 ++ Hs) j.i.op := by
            refine qfZ hjl (fun t ht => ?_) (fun n agg y bb o ho hy => ?_)
            ·rw [qf3, if_neg, List.cons_append, qb7, if_neg]
             ·rintro rfl
              exact hfree' i (by simp) t hd j hja ht
             ·intro hm
              rcases qbX.1 hm with ⟨k, hk, hdk⟩ | hm
              ·exact hfree' k (by simp [hk]) t hdk j hja ht
              ·cases hm
            ·have hm := quL hja ho hy
             rw [qa1, hkey bb hm, qa1, qa1, qeP, if_pos hm];rfl
           refine ⟨hjl, fun _ tv dj hdj ht => ?_, ?_⟩
           ·rw [htv] at ht
            rw [hseen j hja hjl tv dj hdj ht, qf3, if_neg, List.cons_append, qb7, if_neg]
            ·rintro rfl
             exact (List.pairwise_append.1 (qpA.1 ndA)).2.2 j hja i (by simp) dj hdj hd
            ·intro hm
             rcases qbX.1 hm with ⟨k, hk, hdk⟩ | hm
             ·exact (List.pairwise_append.1 (qpA.1 ndA)).2.2 j hja k (by simp [hk]) dj hdj hdk
             ·cases hm
           ·rw [htv]
            have := List.all_eq_true.1 hall j hja;unfold seenT at this;rw [hjl] at this;simp only at this;split at this
            ·rename_i tv ht; exact ⟨tv, ht⟩
            ·cases this) (ordT_sub hLa hord) (zt9 hsubl ndA) (fun j _ dj _ => hfr2 dj) (fun t ht => by
           rw [qf3, qf3];split
           ·rfl
           ·exact hE1 t ht)
         have hS3 : S9 σ3 (qj6 (qf7 b []) ((d, x) :: e1) ++ Es) ((h2 ++ qaK (qt3 (e1 ++ Es) a) h1) ++ Hs) c2 s3 R := t2.congr (fun t => (t4 t).symm) (fun j => by rw [List.append_assoc]);have hn3 : s3.env.n = s.env.n := t3.trans hn2;obtain ⟨e3, h3, c3, σ4, s4, v1, v2, v3, v4, _⟩ := qcU hF.1 hns2 2000 ρ Es Hs b _ _ c2 _ r p3 hS3 (fun j hj d hd => by rw [hn3]; exact hmem j (by simp [hj]) d hd) (fun j hj => nmA j (by simp [hj])) [] (by rw [List.append_nil]; exact zt9 ((List.sublist_cons_self _ _).trans (List.sublist_append_right _ _)) ndA) (by rw [List.append_nil]; exact fun j hj dj hdj => by rw [List.append_assoc]; exact t5 j hj dj hdj);refine ⟨ns2, s4, ?_, fun s3' heq => hQ e3 h3 c3 σ4 s3' (v2.eqv heq) (heq.n.trans (v3.trans hn3)) v4⟩;rw [g3, ← qi1, qhG, t1];exact v1
        ·cases p3
       ·cases p3))
     simpa [qf8] using this
   ·cases q4
  ·cases q4
 ·cases hK
theorem exK_rel (hC : qsD false X C) (hF : qxD X C) (hI : zs5 P C inl) : ∀ (hc : HCode) (s : St) (R : List (TV × AV)), ltH s.env.n hc = true->zt2 P C B hc.er R s (fun ρ Es Hs e h c K => exK X inl hc ρ Es Hs e h c K) := by
 intro hc
 induction hc with
 | skip => intro s R _ ρ Es Hs e h c K r hK σ hS Q hQ; exact WP_skip (hQ _ _ _ _ _ _ hS rfl hK)
 | region ops =>
  intro s R hlt ρ Es Hs e h c K r hK σ hS Q hQ;refine zq6 ?_
  have := qqW (B := B) hC hI _ ρ Es Hs ops e h c _ r hK hS (qhI hlt) [] (QP Q .normal) (fun e' h' c' σ' s' q1 q2 q3 => zq5 (hQ _ _ _ _ _ _ q1 q2 q3))
  rwa [List.append_nil] at this
 | draw ops ct =>
  intro s R hlt ρ Es Hs e h c K r hK σ hS Q hQ;simp only [exK] at hK;split at hK
  ·rename_i hcut
   exact zt8 hC hF hI hcut (fun cd hcd => qk7 hcd) hlt hK hS (fun e' h' c' σ' s' q1 q2 q3 => hQ _ _ _ _ _ _ q1 q2 q3)
  ·split at hK
   ·rename_i hdr
    obtain ⟨hnd, hnm⟩ := qy4 hdr;obtain ⟨ns, hns, hfr⟩ := hS.sh.news;obtain ⟨e', h', c', σ', s', A', q1, qA, q2, q3, q4⟩ := zs8 (ns := ns) hF.1 hns hK hS (qhI hlt) hnm hnd (fun i _ d _ => hfr d);refine zt6 (WP_draw (ns := ns) ?_);rw [qjM];refine ⟨s', q1, _, qqZ s'.env.l (qe9 (e' ++ Es)), _, qA.sub B _, hQ .normal e' h' c' σ' _ ⟨q2.sh, fun t => ?_, q2.rel⟩ q3 q4⟩;rw [qrA];split
    ·exact q2.env t
    ·rename_i ht
     rw [qm4 ht]; exact .inl (.junk _)
   ·cases hK
 | drawA ops rg1 rg2 ct =>
  intro s R hlt ρ Es Hs e h c K r hK σ hS Q hQ;simp only [exK] at hK;split at hK
  ·rename_i hcut
   exact zt8 hC hF hI hcut (fun cd hcd => by obtain ⟨id, o, h1, h2, h3, h4, _⟩ := qk7 hcd; exact ⟨id, o, h1, h2, h3, h4⟩) hlt hK hS (fun e' h' c' σ' s' q1 q2 q3 => hQ _ _ _ _ _ _ q1 q2 q3)
  ·split at hK
   ·rename_i hcut
    exact exM_rel hC hF hI hcut (fun cd hcd => qk7 hcd) hlt hK hS (fun e' h' c' σ' s' q1 q2 q3 => hQ _ _ _ _ _ _ q1 q2 q3)
   ·split at hK
    ·rename_i rg hrg
     obtain ⟨hrr, hdr⟩ := qxI hrg;unfold rgnB at hdr;simp only [Bool.and_eq_true] at hdr;obtain ⟨⟨⟨⟨⟨hlb, hdr⟩, hcl⟩, hel⟩, hal⟩, hnd0⟩ := hdr;have hlm := zt5 hlb;obtain ⟨hnd, hnm⟩ := qy4 hdr
     -- what is not known of temporaries is forgotten
     let D := qf7 ops []
     let ks := (qe9 (e ++ Es)).filter fun t => !(D.elem t)
     let s1 : St := ⟨⟨s.env.n, ks.map fun t => (t, qgA (look s.env.l t))⟩, s.H⟩
     refine WP_sub (s0 := s1) (quH ks) ?_
     have hks : ∀ t, t ∈ ks ↔ t ∈ qe9 (e ++ Es)/\t ∉ D := by intro t; simp [ks]
     have hlk : ∀ t, look s1.env.l t = if t ∈ ks then qgA (look s.env.l t) else .junk := fun t => qhJ s.env.l ks t
     have hS1 : S9 σ (qj6 D e ++ Es) (h ++ Hs) c s1 R := by
      refine ⟨hS.sh, fun t => ?_, hS.rel⟩;rw [qf3, hlk];by_cases hD : t ∈ D
      ·rw [if_pos hD]; exact .inl (.junk _)
      ·rw [if_neg hD]
       by_cases hk : t ∈ qe9 (e ++ Es)
       ·rw [if_pos ((hks t).2 ⟨hk, hD⟩)]; exact .inl (qy5 (hS.env t))
       ·rw [qm4 hk]; exact .inl (.junk _)
     obtain ⟨ns, hns, hfr⟩ := hS.sh.news;obtain ⟨e', h', c', σ', s', A', q1, qA, q2, q3, q4⟩ := zs8 (ns := ns) (hF.2 rg.S rg.LB fun f k hl => hlm _ (qkY hl)) hns hK hS1 (qhI hlt) hnm hnd (fun i _ d _ => hfr d)
     let ids : Nat->Id := fun c => if c ∈ rg.AL then c :: ns else match qa5 (e ++ Es) c with
      | .box i _ => (σ i).getD []
      | _ => []
     have hinv : ∀ L : List (Nat × Nat), (∀ p ∈ L, p.1 ∈ D\/(p.1 = p.2/\((∃ i o ci, qa5 (e ++ Es) p.1 = .box i o/\qa0 (h ++ Hs) i = some (.box ci))\/∃ s x o, qa5 (e ++ Es) p.1 = .pt s x o)))->invT ids s1 L := by
      intro L
      induction L with
      | nil => intro _; trivial
      | cons p L ih =>
       obtain ⟨t, cc⟩ := p;intro hL;refine ⟨?_, ih (fun p hp => hL p (by simp [hp]))⟩;rw [hlk];have h1 := hL (t, cc) (by simp);by_cases hk : t ∈ ks
       ·rw [if_pos hk]
        have hD := ((hks t).1 hk).2;rcases h1 with h1 | ⟨htc, ⟨i, o, ci, he, hci⟩ | ⟨sh, x, o, he⟩⟩
        ·exact absurd h1 hD
        ·have hv := qy5 (hS.env t)
         simp only at he;rw [he] at hv;obtain ⟨id, hi, hy⟩ := hv.box_inv;rw [hy];have htc : t = cc := htc;subst htc
         have hna : t ∉ rg.AL := fun hm => hD (by
          have := List.all_eq_true.1 hal t hm;simpa using this)
         obtain ⟨id', ys, b1, b2, _⟩ := hS.sh.blk i _ hci;rw [hi] at b1;cases b1
         have hids : ids t = id := by
          simp only [ids, if_neg hna, he, hi, Option.getD_some]
         rw [hids];exact ⟨rfl, by show qe6 (s.H id) = true; rw [b2]; rfl⟩
        ·have hv := qy5 (hS.env t)
         simp only at he;rw [he] at hv;generalize qgA (look s.env.l t) = y at hv;cases hv;trivial
       ·rw [if_neg hk]; trivial
     have hinvE : ∀ L : List Nat, (∀ t ∈ L, t ∈ D\/(∃ i j o, qa5 (e ++ Es) t = .elt i j o)\/∃ s x o, qa5 (e ++ Es) t = .pt s x o)->invE s1 L := by
      intro L
      induction L with
      | nil => intro _; trivial
      | cons t L ih =>
       intro hL;refine ⟨?_, ih (fun p hp => hL p (by simp [hp]))⟩;rw [hlk];by_cases hk : t ∈ ks
       ·rw [if_pos hk]
        have hv := qy5 (hS.env t);rcases hL t (by simp) with h1 | ⟨i, j, o, h1⟩ | ⟨sh, x, o, h1⟩
        ·exact absurd h1 ((hks t).1 hk).2
        ·rw [h1] at hv
         generalize qgA (look s.env.l t) = y at hv;cases hv <;> trivial
        ·rw [h1] at hv
         generalize qgA (look s.env.l t) = y at hv;cases hv;trivial
       ·rw [if_neg hk]; trivial
     have hboxid : ∀ (x i o ci), x ∉ rg.AL->qa5 (e ++ Es) x = .box i o->qa0 (h ++ Hs) i = some (.box ci)->∃ id ys, σ i = some id/\s.H id = some (.box ys)/\ids x = id := by
      intro x i o ci hx he hci;obtain ⟨id, ys, b1, b2, _⟩ := hS.sh.blk i _ hci;exact ⟨id, ys, b1, b2, by simp only [ids, if_neg hx, he, b1, Option.getD_some]⟩
     refine zt6 (qtJ (ns := ns) ⟨rg, hrr, ids, hinv rg.L (zb3 hcl), hinvE rg.EL (quI hel), fun d hd => by simp only [ids, if_pos hd], fun p hp => ?_, fun p hp => ?_, s', _, q1, qqZ s'.env.l (qe9 (e' ++ Es)), _, qA.sub B _, hQ .normal e' h' c' σ' _ ⟨q2.sh, fun t => ?_, q2.rel⟩ q3 q4⟩)
     ·rcases quJ hnd0 p hp with ⟨m1, m2, m3⟩ | ⟨m1, m2, i, o, ci, g1, g2⟩ | ⟨m1, m2, i, o, ci, g1, g2⟩ | ⟨m1, m2, i, o, j, o', ci, cj, g1, g2, g3, g4, g5⟩
      ·simp only [ids, if_pos m1, if_pos m2]
       intro e;exact m3 (List.cons.inj e).1
      ·obtain ⟨id, ys, b1, b2, b3⟩ := hboxid _ i o ci m1 g1 g2
       rw [b3];simp only [ids, if_pos m2];intro e;rw [e, (hfr p.2).1] at b2;cases b2
      ·obtain ⟨id, ys, b1, b2, b3⟩ := hboxid _ i o ci m2 g1 g2
       rw [b3];simp only [ids, if_pos m1];intro e;rw [← e, (hfr p.1).1] at b2;cases b2
      ·obtain ⟨idi, ys, b1, _, b3⟩ := hboxid _ i o ci m1 g1 g4
       obtain ⟨idj, zs, b4, _, b6⟩ := hboxid _ j o' cj m2 g2 g5;rw [b3, b6];intro e;subst e;exact g3 (hS.sh.inj i j idi ⟨_, g4, by simp⟩ ⟨_, g5, by simp⟩ b1 b4)
     ·obtain ⟨h1, sh, h2⟩ := hlm p hp
      exact hC.2.1 p.1 p.2 sh h1 h2
     ·rw [qrA]
      split
      ·exact q2.env t
      ·rename_i ht
       rw [qm4 ht]; exact .inl (.junk _)
    ·cases hK
 | seq a b iha ihb =>
  intro s R hlt ρ Es Hs e h c K r hK σ hS Q hQ;simp only [ltH, Bool.and_eq_true] at hlt;refine WP_seq (iha s R hlt.1 ρ Es Hs e h c _ r hK σ hS _ ?_);intro x e' h' c' σ' s' q1 q2 q3;cases x with
  | normal => exact ihb s' R (by rw [q2]; exact hlt.2) ρ Es Hs e' h' c' K r q3 σ' q1 Q (fun x e2 h2 c2 σ2 s2 p1 p2 p3 => hQ x e2 h2 c2 σ2 s2 p1 (p2.trans q2) p3)
  | _ => exact hQ _ _ _ _ _ _ q1 q2 q3
 | cond j k a b iha ihb =>
  intro s R hlt ρ Es Hs e h c K r hK σ hS Q hQ;simp only [ltH, Bool.and_eq_true] at hlt;simp only [exK] at hK;split at hK
  ·rename_i hl
   have hv : unw true (evE s.env k) = .val (.bool true) := qu7 (hS.ev k) (by
    cases k with
    | t n => simp only [evT, qnK] at hl ⊢; rw [hl]; rfl
    | c d => simp only [evT, qnK] at hl ⊢; rw [hl]; rfl)
   exact qqP hv (fun _ => iha s R hlt.1 ρ Es Hs e h c K r hK σ hS Q hQ) (fun e => by cases e)
  ·rename_i hl
   have hv : unw true (evE s.env k) = .val (.bool false) := qu7 (hS.ev k) (by
    cases k with
    | t n => simp only [evT, qnK] at hl ⊢; rw [hl]; rfl
    | c d => simp only [evT, qnK] at hl ⊢; rw [hl]; rfl)
   exact qqP hv (fun e => by cases e) (fun _ => ihb s R hlt.2 ρ Es Hs e h c K r hK σ hS Q hQ)
  ·split at hK
   ·rename_i t ht
    have hv := qu7 (hS.ev k) ht
    have both : zt2 P C B (.cond k a.er b.er) R s (fun ρ Es Hs e h c K => cX t (exK X inl a ρ Es Hs e h c K) (exK X inl b ρ Es Hs e h c K)) := by
     intro ρ Es Hs e h c K r hK σ hS Q hQ;rcases qlO hK with ⟨h1, h2⟩ | ⟨h1, h2⟩
     ·exact qqP hv (fun _ => iha s R hlt.1 ρ Es Hs e h c K r h2 σ hS Q hQ) (fun e => by rw [h1] at e; cases e)
     ·exact qqP hv (fun e => by rw [h1] at e; cases e) (fun _ => ihb s R hlt.2 ρ Es Hs e h c K r h2 σ hS Q hQ)
    split at hK
    ·exact both ρ Es Hs e h c K r hK σ hS Q hQ
    ·exact quG both hK hS hQ
   ·cases hK
 | block j id x ih =>
  intro s R hlt ρ Es Hs e h c K r hK σ hS Q hQ;simp only [ltH] at hlt
  have way : zt2 P C B (.block id x.er) R s (fun ρ Es Hs e h c K => exK X inl x ρ Es Hs e h c fun x e h c => (match x with
    | .exit i => (match Nat.beq i id with
     | true => K .normal e h c
     | false => K (.exit i) e h c)
    | x => K x e h c)) := by
   intro ρ Es Hs e h c K r hK σ hS Q hQ;refine WP_block (ih s R hlt ρ Es Hs e h c _ r hK σ hS _ ?_);intro y e' h' c' σ' s' q1 q2 q3;cases y with
   | exit i =>
    simp only [qaI];simp only at q3;split at q3
    ·rename_i hb
     rw [if_pos (qb2 hb)];exact hQ _ _ _ _ _ _ q1 q2 q3
    ·rename_i hb
     rw [if_neg (fun e => by subst e; rw [Nat.beq_refl] at hb; cases hb)];exact hQ _ _ _ _ _ _ q1 q2 q3
   | _ => exact hQ _ _ _ _ _ _ q1 q2 q3
  simp only [exK] at hK;split at hK
  ·exact way ρ Es Hs e h c K r hK σ hS Q hQ
  ·exact quG way hK hS hQ
 | loop j n x ih =>
  intro s R hlt ρ Es Hs e h c K r hK σ hS Q hQ;simp only [ltH] at hlt;simp only [exK] at hK;split at hK
  ·refine zq8 ?_
   have key : ∀ (n : Nat) (s1 : St) (e : qd9) (h : HpT) (c : Nat) (σ : Nat->Option Id), s1.env.n = s.env.n->S9 σ (e ++ Es) (h ++ Hs) c s1 R->za0 (fun e h c K => exK X inl x ρ Es Hs e h c K) n e h c K = some r->RD P C B x.er Q s1 := by
    intro n
    induction n with
    | zero => intro s1 e h c σ _ _ hK; cases hK
    | succ n ihn =>
     intro s1 e h c σ hn hS hK;unfold za0 at hK;refine zq7 (Sub.refl s1) (ih s1 R (by rw [hn]; exact hlt) ρ Es Hs e h c _ r hK σ hS _ ?_);intro y e' h' c' σ' s' q1 q2 q3;cases y with
     | normal => exact ihn s' e' h' c' σ' (q2.trans hn) q1 q3
     | _ => exact hQ _ _ _ _ _ _ q1 (q2.trans hn) q3
   exact key n s e h c σ rfl hS hK
  ·exact zt4 (n := s.env.n) (fun s1 h1 => ih s1 R (by rw [h1]; exact hlt)) hK rfl hS (fun x e' h' c' σ' s' q1 q2 _ q4 => hQ x e' h' c' σ' s' q1 q2 q4)
 | bad => intro s R _ ρ Es Hs e h c K r hK; cases hK
 | exit id => intro s R _ ρ Es Hs e h c K r hK σ hS Q hQ; exact WP_exit (hQ _ _ _ _ _ _ hS rfl hK)
 | ret => intro s R _ ρ Es Hs e h c K r hK σ hS Q hQ; exact WP_ret (hQ _ _ _ _ _ _ hS rfl hK)
theorem qy6 : ∀ (m : List AIns) (l : List Oper), qf8 (qiF P m l) = m
 | [], _ => rfl
 | i :: m, [] => by simp only [qiF, qf8, qy6 m []]
 | i :: m, o :: l => by simp only [qiF, qf8, qy6 m l]
theorem annot_er {hs : List (Nat × Hint)} : ∀ (c : Code) {n m : Nat} {hc : HCode}, qhC P hs c n = some (hc, m)->qm1 P c = some hc.er := by
 intro c
 induction c with
 | skip => intro n m hc h; cases h; rfl
 | region id ops dr =>
  intro n m hc h;simp only [qhC] at h;split at h
  ·rename_i q; cases h; rw [q]; simp only [HCode.er, qy6]
  ·rename_i q; cases h; rw [q]; simp only [HCode.er, qy6]
  ·rename_i q; cases h; rw [q]; simp only [HCode.er, qy6]
  ·rename_i q; cases h; rw [q]; rfl
  ·cases h
 | seq a b iha ihb =>
  intro n m hc h;simp only [qhC] at h;split at h
  ·rename_i q1
   split at h
   ·rename_i q2; cases h; simp only [qm1, iha q1, ihb q2, HCode.er]
   ·cases h
  ·cases h
 | cond k a b iha ihb =>
  intro n m hc h;simp only [qhC] at h;split at h
  ·rename_i q0 q1
   split at h
   ·rename_i q2; cases h; simp only [qm1, q0, iha q1, ihb q2, HCode.er]
   ·cases h
  ·cases h
 | block id x ih =>
  intro n m hc h;simp only [qhC] at h;split at h
  ·rename_i q1; cases h; simp only [qm1, ih q1, HCode.er, Option.map_some]
  ·cases h
 | loop x ih =>
  intro n m hc h;simp only [qhC] at h;split at h
  ·rename_i q1; cases h; simp only [qm1, ih q1, HCode.er, Option.map_some]
  ·cases h
 | exit id => intro n m hc h; cases h; rfl
 | ret => intro n m hc h; cases h; rfl
 | _ => intro n m hc h; cases h; rfl
theorem quN {hs : List (Nat × Hint)} {f : FuncId} {fn : HFn} (h : annF P hs f = some fn) : qtD P f = some ⟨fn.code.er, fn.res, fn.ntmps⟩ := by
 unfold annF at h;unfold qtD;split at h
 ·rename_i g hg
  split at h
  ·rename_i c rs hb hr
   split at h
   ·rename_i hn ha
    cases h;simp only [hg, hb, hr, hn, annot_er c ha];rfl
   ·cases h
  ·cases h
 ·cases h
theorem qhK {σ : Nat->Option Id} {e : qd9} {H : HpT} {c : Nat} {s : St} {R : List (TV × AV)} (hS : S9 σ e H c s R) {ρ : Type} : ∀ (rs : List ARes) {K : List TV->Option ρ} {r : ρ}, qiH e H rs K = some r->∃ xs ys, K xs = some r/\ress s rs = some ys/\VRs σ H xs ys
 | [], K, r, hK => ⟨[], [], hK, rfl, .nil⟩
 | .tmp t :: l, K, r, hK => by
  simp only [qiH, qnQ] at hK;obtain ⟨xs, ys, h1, h2, h3⟩ := qhK hS l hK;exact ⟨_, _, h1, by simp only [ress, res1, h2]; rfl, .cons (hS.ev (.t t)) h3⟩
 | .cell t n agg :: l, K, r, hK => by
  simp only [qiH] at hK;have hx := hS.ev (.t t);split at hK
  ·rename_i i o he
   rw [he] at hx;obtain ⟨id, hi, hy⟩ := hx.box_inv;split at hK
   ·rename_i cells hb
    obtain ⟨id2, ys, b1, b2, b3, _⟩ := hS.sh.blk i _ hb;rw [hi] at b1;cases b1;obtain ⟨p1, z, x, p2, p3, p4⟩ := qfS b3 hK;obtain ⟨xs, ys', h1, h2, h3⟩ := qhK hS l p4;refine ⟨_, _, h1, ?_, .cons p3 h3⟩;have hy' : unw true (look s.env.l t) = .box id o := hy;simp only [ress, res1, hy', qk1, b2];rw [if_pos p1, p2];simp only [h2]
   ·cases hK
  ·cases hK
theorem zb7 {σ : Nat->Option Id} {H : HpT} : ∀ {l : List TV} {ys : List AV}, VRs σ H l ys->∀ i t, VRm σ H (qa5 (enumT i l) t) (look (qtE i ys) t)
 | [], ys, h, i, t => by cases h.nil_inv; exact .inl (.junk _)
 | x :: l, ys, h, i, t => by
  obtain ⟨y, ys, rfl, h1, h2⟩ := h.cons_inv;simp only [enumT, qtE, qb7, look];by_cases e : t = i
  ·rw [if_pos e, if_pos e.symm]; exact .inl h1
  ·rw [if_neg e, if_neg (Ne.symm e)]
   exact zb7 h2 (i + 1) t
theorem zu0 (hC : qsD false X C) (hF : qxD X C) {hn : FuncId->List (Nat × Hint)} : ∀ k, zs5 P C (funK X P hn k)
 | 0 => by intro ρ f Hs args h c K r hK; cases hK
 | k + 1 => by
  intro ρ f Hs args h c K r hK;simp only [funK] at hK;split at hK
  ·rename_i fn hfn
   split at hK
   ·rename_i hle
    rw [Bool.and_eq_true] at hle;refine ⟨_, quN hfn, ?_⟩;intro σ A ys R hS hv hR Post hP B;have hlen := qg3 hle.1;have hn : (zg2 ys fn.ntmps).n = fn.ntmps := by simp only [zg2]; rw [hv.1]; omega
    refine exK_rel hC hF (zu0 hC hF k) fn.code ⟨zg2 ys fn.ntmps, A⟩ R (by rw [show (⟨zg2 ys fn.ntmps, A⟩ : St).env.n = fn.ntmps from hn]; exact hle.2) ρ [] Hs _ h c _ r hK σ ⟨hS, fun t => ?_, hR⟩ _ ?_
    ·rw [List.append_nil]
     exact zb7 hv 0 t
    ·intro x e' h' c' σ' s' q1 q2 q3
     rw [List.append_nil] at q1
     have out : ∀ {K' : List TV->Option ρ}, (∀ m, K' m = match m with
       | [x] => K x h' c'
       | m => K (.tup m) h' c')->qiH e' (h' ++ Hs) fn.res K' = some r->∃ y, outA s' fn.res = some y/\Post y s'.H := by
      intro K' hK' hq;obtain ⟨xs, zs, g1, g2, g3⟩ := qhK q1 fn.res hq;rw [hK'] at g1;split at g1
      ·rename_i x1
       obtain ⟨y, zs', rfl, g4, g5⟩ := g3.cons_inv;cases g5.nil_inv;exact ⟨y, by simp only [outA, g2], hP x1 h' c' σ' y s'.H q1.sh g4 q1.rel g1⟩
      ·rename_i m hne
       refine ⟨.tup zs, ?_, hP _ h' c' σ' _ s'.H q1.sh (.tup xs zs g3.1 g3.2) q1.rel g1⟩;simp only [outA, g2];split
       ·rename_i x heq
        cases heq
        match xs, g3.1 with
        | [a], _ => exact absurd rfl (hne a)
       ·rename_i l _ heq; cases heq; rfl
       ·rename_i heq; cases heq
     cases x with
     | normal => exact out (fun m => by rfl) q3
     | ret => exact out (fun m => by rfl) q3
     | _ => cases q3
   ·cases hK
  ·cases hK
end
section
variable {σ : Nat->Option Id} {H : HpT} {ρ : Type} {A : Hp}
theorem Wd.of_zA {d d' : DV} (h : zA d = zA d') : Wd d d' := fun _ _ _ hr => qoW h hr
theorem Wd.tup {l m : List DV} (h : Wds l m) : Wd (.tup l) (.tup m) := by
 intro F w v hr;cases hr with
 | tup _ vs hl hv =>
  refine .tup m vs (by rw [hl, h.1]) (fun j d v h1 h2 => ?_);have hj : j < l.length := by rw [← h.1]; exact (List.getElem?_eq_some_iff.1 h1).1
  exact h.2 j _ d (List.getElem?_eq_getElem hj) h1 F w v (hv j _ v (List.getElem?_eq_getElem hj) h2)
theorem Wds.of_zA : ∀ {l m : List DV}, l.map zA = m.map zA->Wds l m := by
 intro l m h;have hl : l.length = m.length := by simpa using congrArg List.length h
 refine ⟨hl.symm, fun j d d' h1 h2 => Wd.of_zA ?_⟩;have := congrArg (fun l => l[j]?) h;simpa [h1, h2] using this
theorem outD_one {y : AV} {d : DV} {p : List Id} (h : qz9 A 99 y = some (d, p)) : outD A y = some d := by
 unfold outD;split
 ·simp [qz9] at h
 ·rw [h]; rfl
theorem qpB : ∀ {l : List DV} {ds : List DV} {p : List Id} {k : Nat}, qf5 A k (l.map .val) = some (ds, p)->ds = l.map DV.norm
 | [], ds, p, k, h => by
  cases k with
  | zero => cases h
  | succ k => simp only [List.map_nil, qf5, Option.some.injEq, Prod.mk.injEq] at h; exact h.1.symm
 | d :: l, ds, p, k, h => by
  cases k with
  | zero => cases h
  | succ k =>
   simp only [List.map_cons, qf5] at h;split at h
   ·rename_i d1 a ds1 b q1 q2
    simp only [Option.some.injEq, Prod.mk.injEq] at h;obtain ⟨rfl, _⟩ := h;cases k with
    | zero => cases q1
    | succ k =>
     simp only [qz9, Option.some.injEq, Prod.mk.injEq] at q1;rw [qpB q2, List.map_cons, q1.1]
   ·cases h
theorem outK_rel (hB : BRs σ H A) : ∀ (l : List Sh) {x : TV} {y : AV} {K : El (qiW l)->Option ρ} {r : ρ}, VR σ H x y->outK H l x K = some r->∃ v d, K v = some r/\outD A y = some d/\Wd d (ebL l v)
 | [], x, y, K, r, h, hK => by
  simp only [outK] at hK;split at hK
  ·refine ⟨(), .tup [], hK, ?_, fun _ _ _ h => h⟩
   cases h with
   | tup _ ys hl _ =>
    have : ys = [] := List.eq_nil_of_length_eq_zero hl;subst this; rfl
   | tupv _ ds hl _ =>
    have : ds = [] := List.eq_nil_of_length_eq_zero hl;subst this; rfl
  ·cases hK
 | [s], x, y, K, r, h, hK => by
  simp only [outK] at hK;obtain ⟨a, ids, ds, hK, e1, e2, _⟩ := qu8 hB [s] (.cons h .nil) hK;have e2 := e2 100 (by simp);simp only [qf5] at e2;split at e2
  ·rename_i d p ds' q h1 h2
   simp only [Option.some.injEq, Prod.mk.injEq] at e2 h2;obtain ⟨rfl, _⟩ := e2;obtain ⟨rfl, _⟩ := h2;refine ⟨a.1, d, hK, outD_one h1, Wd.of_zA ?_⟩;show zA d = zA (qxA s a.1);simpa [eaL] using e1
  ·cases e2
 | a :: b :: l, x, y, K, r, h, hK => by
  simp only [outK] at hK;split at hK
  ·rename_i xs
   split at hK
   ·rename_i hlen
    have hlen := qg3 hlen;cases h with
    | tup _ ys hl hv =>
     obtain ⟨v, ids, ds, hK, e1, e2, _⟩ := qu8 hB (a :: b :: l) (⟨hl, hv⟩ : VRs σ H xs ys) hK;have e2 := e2 99 (by omega);exact ⟨v, .tup ds, hK, by simp only [outD, e2, Option.map_some], Wd.tup (Wds.of_zA e1)⟩
    | tupv _ ds0 hl hv =>
     obtain ⟨v, ids, ds, hK, e1, e2, _⟩ := qu8 hB (a :: b :: l) (VRs.ofV hl hv) hK;have e2 := e2 99 (by simp; omega);have := qpB e2;subst this;refine ⟨v, .tup ds0, hK, rfl, Wd.tup ((Wds.norm ds0).trans (Wds.of_zA e1))⟩
   ·cases hK
  ·cases hK
end
section
variable {P : Program} {C : FuncId->Con} {X : Cx}
theorem valX (hC : qr4 P C) (hX : qsD false X C) (hXF : qxD X C) {hn : FuncId->List (Nat × Hint)} {k : Nat} {f : FuncId} {af : AFn} (haf : qtD P f = some af) (tc : TCn) (hfine : ∀ s ∈ tc.args, s.fine = true) (hg : ∀ a r, tc.g a = some r->fnK X P hn k f tc.args tc.res a = some r) : qdF P f (qm3 tc) := by
 obtain ⟨fn, c, _, _, _, _, _, hent⟩ := qlI haf;refine ⟨hent, fun ds r hr F w vs hrep hF hT => ?_⟩
 -- the data that it is of
 obtain ⟨a, v, ha, hv, rfl⟩ : ∃ a v, ds.map zA = (eaL tc.args a).map zA/\tc.g a = some v/\r = ebL tc.res v := by
  have hr0 := hr;unfold qm3 at hr;split at hr
  ·rename_i h
   obtain ⟨v, h1, h2⟩ := Option.map_eq_some_iff.1 hr;exact ⟨_, v, (Classical.choose_spec h).symm, h1, h2.symm⟩
  ·cases hr
 have hw := Wds.of_zA ha
 have hrep' : qdZ F w (eaL tc.args a) vs := ⟨by rw [hrep.1, hw.1], fun j d v h1 h2 => by
  have hj : j < ds.length := by rw [← hw.1]; exact (List.getElem?_eq_some_iff.1 h1).1
  exact hw.2 j _ d (List.getElem?_eq_getElem hj) h1 _ _ _ (hrep.2 j _ v (List.getElem?_eq_getElem hj) h2)⟩
 have hK := hg a v hv;unfold fnK at hK
 let σ0 : Nat->Option Id := fun _ => none
 obtain ⟨ts, ht, hK⟩ := qqU (σ := σ0) (H := []) tc.args hfine hK;obtain ⟨af', haf', hI⟩ := zu0 hX hXF k (El (qiW tc.res)) f [] ts [] 0 _ v hK;rw [haf] at haf';cases haf';have hS0 : SH σ0 ([] ++ []) 0 (mkH []) := ⟨(fun i b hi => by cases hi), (fun i j id ⟨b, h, _⟩ => by cases h), (fun i b hi => by cases hi), 0, fun _ _ => rfl, (fun i b id hi => by cases hi)⟩
 have hWP := hI σ0 (mkH []) _ [] hS0 ht (by simp) (fun y A' => ∃ d, outD A' y = some d/\Wd d (ebL tc.res v)) (fun x h' c' σ' y A' q1 q2 _ q4 => by
  obtain ⟨v', d, g1, g2, g3⟩ := outK_rel (σ := σ') (H := h') (A := A') (by have := q1.blk; rwa [List.append_nil] at this) tc.res (by rwa [List.append_nil] at q2) q4;cases g1;exact ⟨d, g2, g3⟩) (fun _ => False)
 refine qtL hC haf (J := fun _ => .none) (nothing F w hF hT) (avs := (eaL tc.args a).map .val) ⟨by simp [hrep'.1], fun j y v h1 h2 => ?_⟩ hWP ?_
 ·simp only [List.getElem?_map, Option.map_eq_some_iff] at h1
  obtain ⟨d, h1, rfl⟩ := h1;exact .val _ _ (hrep'.2 j d v h1 h2)
 ·rintro s a' w' J' F' hE' hH' hX' ⟨x, hx, d, hd, hwd⟩
  refine ⟨x, hx, fun u hu => ?_⟩
  have hnew : ∀ g, F' g\/Own J' g->F g\/w.heap.size<=g := by
   rintro g (h1 | h1)
   ·rcases hX'.fnew g h1 with h2 | ⟨_, _, _, h2⟩ | h2
    ·exact .inl h2
    ·cases h2
    ·exact .inr h2
   ·rcases hX'.onew g h1 with ⟨_, _, _, h2⟩ | h2
    ·cases h2
    ·exact .inr h2
  have hsz : ∀ g, F' g\/Own J' g->g < w'.heap.size := by
   rintro g (h1 | ⟨_, _, _, h1⟩)
   ·exact hH'.fsz g h1
   ·exact hH'.live _ _ _ _ _ h1
  have hrel : Rep (fun g => F' g\/Own J' g) w' d u := by
   have widen : ∀ ids g, qdY J' F' ids g->F' g\/Own J' g := fun ids g h => h.imp (fun h => h) (fun ⟨i, _, s, c, h⟩ => ⟨i, s, c, h⟩)
   unfold outD at hd;split at hd
   ·rename_i l
    simp only [Option.map_eq_some_iff] at hd;obtain ⟨⟨ds', ids⟩, hds, rfl⟩ := hd;obtain ⟨hl, hr⟩ := (qt0 hH' 99).2 _ _ _ hds;cases hu with
    | tup _ us hul hur =>
     refine .tup _ _ (by rw [hul, hl]) (fun j d u q1 q2 => ?_);have hj : j < l.length := by rw [← hl]; exact (List.getElem?_eq_some_iff.1 q1).1
     exact (hr j _ d u (List.getElem?_eq_getElem hj) q1 (hur j _ u (List.getElem?_eq_getElem hj) q2)).mono (widen ids) (fun _ _ => rfl)
   ·simp only [Option.map_eq_some_iff] at hd
    obtain ⟨⟨d', ids⟩, hds, rfl⟩ := hd;exact ((qt0 hH' 99).1 _ _ _ u hds hu).mono (widen ids) (fun _ _ => rfl)
  exact ⟨u, _, rfl, hwd _ _ _ hrel, hnew, hsz, ⟨fun g hg => hX'.heap g hg (by rintro ⟨_, _, _, h⟩; cases h), hX'.size, hX'.os, hX'.tape, hX'.output⟩⟩
end
noncomputable def qiY (lb : LbT) (M T : List (FuncId × TCn)) : FuncId->Con := fun f => match qq3 T f with
 | some tc => .val (qm3 tc)
 | none => (match qdI lb f with
  | some (k, _) => .shared (qc7 k)
  | none => (match qq3 M f with
   | some tc => .shared (qnR tc)
   | none => .none))
structure Tbl [Inhabited TabsD] (P : Program) (lb : LbT) (M T : List (FuncId × TCn)) : Prop where
 con : qr4 P (qiY lb M T)
 lib : ∀ f k sh, qdI lb f = some (k, sh)->qj8 P f (qc7 k)
 fine : ∀ f tc, qq3 T f = some tc->∀ r ∈ tc.res, r.fine = true
 meth : ∀ f tc, qq3 M f = some tc->qj8 P f (qnR tc)
 mfine : ∀ f tc, qq3 M f = some tc->∀ r ∈ tc.res, r.fine = true
theorem Tbl.libs {P : Program} {lb : LbT} (h : ∀ f k sh, qdI lb f = some (k, sh)->qj8 P f (qc7 k)) : Tbl P lb [] [] := by
 refine ⟨fun f => ?_, h, (fun f tc h => by cases h), (fun f tc h => by cases h), (fun f tc h => by cases h)⟩;unfold qiY;simp only [qq3];cases hq : qdI lb f with
 | none => trivial
 | some p => exact h f p.1 p.2 hq
theorem Tbl.met {P : Program} {lb : LbT} {M T : List (FuncId × TCn)} (h : Tbl P lb M T) (f : FuncId) (tc : TCn) (hm : qj8 P f (qnR tc)) (h3 : tc.res.all Sh.fine = true) : Tbl P lb ((f, tc) :: M) T := by
 simp only [List.all_eq_true] at h3
 have hf : ∀ g tc', qq3 ((f, tc) :: M) g = some tc'->(f = g/\tc' = tc)\/qq3 M g = some tc' := by
  intro g tc' hg;simp only [qq3] at hg;split at hg
  ·rename_i hq
   cases hg;exact .inl ⟨qb2 hq, rfl⟩
  ·exact .inr hg
 refine ⟨fun g => ?_, h.lib, h.fine, fun g tc' hg => ?_, fun g tc' hg => ?_⟩
 ·have hc := h.con g
  unfold qiY at hc ⊢;cases h1 : qq3 T g with
  | some t => rw [h1] at hc; exact hc
  | none =>
   rw [h1] at hc;simp only at hc ⊢;cases h2 : qdI lb g with
   | some p => rw [h2] at hc; exact hc
   | none =>
    simp only;cases h4 : qq3 ((f, tc) :: M) g with
    | none => trivial
    | some tc' =>
     rcases hf g tc' h4 with ⟨e1, e2⟩ | h5
     ·subst e1; subst e2; exact hm
     ·exact h.meth g tc' h5
 ·rcases hf g tc' hg with ⟨e1, e2⟩ | h5
  ·subst e1; subst e2; exact hm
  ·exact h.meth g tc' h5
 ·rcases hf g tc' hg with ⟨e1, e2⟩ | h5
  ·subst e2; exact h3
  ·exact h.mfine g tc' h5
theorem Tbl.ct {P : Program} {lb : LbT} {M T : List (FuncId × TCn)} (h : Tbl P lb M T) : qsD false ⟨qq3 T, fun _ => false, qdI lb, qq3 M⟩ (qiY lb M T)/\qxD ⟨qq3 T, fun _ => false, qdI lb, qq3 M⟩ (qiY lb M T) := by
 refine qsD.of (fun f k sh h1 h2 => ?_) (fun f tc h1 h2 h3 => ⟨h.mfine f tc h3, ?_⟩) fun f tc hf => ⟨h.fine f tc hf, ?_⟩
 ·simp only [qiY, show qq3 T f = none from h1, show qdI lb f = some (k, sh) from h2]
 ·simp only [qiY, show qq3 T f = none from h1, show qdI lb f = none from h2, show qq3 M f = some tc from h3]
 ·simp only [qiY, show qq3 T f = some tc from hf]
theorem Tbl.add {P : Program} {lb : LbT} {M T : List (FuncId × TCn)} (h : Tbl P lb M T) (hn : FuncId->List (Nat × Hint)) (k : Nat) (f : FuncId) (tc : TCn) (hc : ((annF P (hn f) f).isSome && tc.args.all Sh.fine && tc.res.all Sh.fine) = true) (hg : ∀ a, fnK ⟨qq3 T, fun _ => false, qdI lb, qq3 M⟩ P hn k f tc.args tc.res a = tc.g a) : Tbl P lb M ((f, tc) :: T) := by
 simp only [Bool.and_eq_true, List.all_eq_true] at hc;obtain ⟨⟨h1, h2⟩, h3⟩ := hc;obtain ⟨fn, hfn⟩ := Option.isSome_iff_exists.1 h1;have hv : qdF P f (qm3 tc) := valX h.con h.ct.1 h.ct.2 (quN hfn) tc h2 (fun a r hr => by rw [← hr]; exact hg a);refine ⟨fun g => ?_, h.lib, fun g tc' hg' => ?_, h.meth, h.mfine⟩
 ·unfold qiY
  simp only [qq3];cases hk : Nat.beq f g with
  | true =>
   have := qb2 hk;subst this;exact hv
  | false => exact h.con g
 ·simp only [qq3] at hg'
  split at hg'
  ·cases hg'; exact h3
  ·exact h.fine g tc' hg'
def Rg : (s : Sh)->El s->Prop
 | .bool, _ => True
 | .int k, n => (Lit.int k n).wf = true
 | .str, x => x.size<=maxLen
 | .ptr _, _ => True
 | .slice _ s, l => List.length l<=maxLen/\∀ x : El s, List.Mem x l->Rg s x
 | .nil, _ => True
 | .cons a b, x => Rg a x.1/\Rg b x.2
def qxJ : Sh->Bool
 | .ptr _ => false
 | .slice _ s => qxJ s
 | .cons a b => qxJ a && qxJ b
 | _ => true
theorem qlW : ∀ (s : Sh), qxJ s = true->∀ {ds : List DV}, qx2 s ds->∃ x, ds = qe1 s x/\Rg s x
 | .bool, _, ds, ⟨b, h⟩ => ⟨b, h, trivial⟩
 | .int k, _, ds, ⟨n, h, hw⟩ => ⟨n, h, hw⟩
 | .str, _, ds, ⟨x, h, hw⟩ => ⟨x, h, hw⟩
 | .ptr _, h, _, _ => by cases h
 | .slice n s, hp, ds, ⟨l, h, hm, hl⟩ => by
  have : ∃ xs : List (El s), l = xs.map (qe1 s)/\∀ x ∈ xs, Rg s x := by
   clear h hm
   induction l with
   | nil => exact ⟨[], rfl, by simp⟩
   | cons e l ih =>
    obtain ⟨xs, h1, h2⟩ := ih (fun e he => hl e (by simp [he]));obtain ⟨x, h3, h4⟩ := qlW s hp (hl e (by simp)).2;refine ⟨x :: xs, by rw [List.map_cons, h3, h1], fun y hy => ?_⟩;rcases List.mem_cons.1 hy with rfl | hy
    ·exact h4
    ·exact h2 y hy
  obtain ⟨xs, rfl, hx⟩ := this;exact ⟨xs, h, by simpa using hm, hx⟩
 | .nil, _, ds, h => ⟨(), h, trivial⟩
 | .cons a b, hp, ds, ⟨x, y, h, _, hx, hy⟩ => by
  simp only [qxJ, Bool.and_eq_true] at hp;obtain ⟨u, rfl, hu⟩ := qlW a hp.1 hx;obtain ⟨v, rfl, hv⟩ := qlW b hp.2 hy;exact ⟨(u, v), h, hu, hv⟩
theorem zb8 : ∀ (l : List Sh), l.all qxJ = true->∀ {ds : List DV}, qgZ l ds->∃ a, ds = eaL l a/\Rg (qk3 l) a
 | [], _, [], _ => ⟨(), rfl, trivial⟩
 | [], _, _ :: _, h => h.elim
 | _ :: _, _, [], h => h.elim
 | s :: l, hp, d :: m, ⟨h1, h2⟩ => by
  simp only [List.all_cons, Bool.and_eq_true] at hp;obtain ⟨b, rfl, hb⟩ := zb8 l hp.2 h2
  have : ∃ a, d = qxA s a/\Rg s a := by
   have one : isAgg s = false->qx2 s [d]->∃ a, d = qxA s a/\Rg s a := by
    intro hs h;obtain ⟨a, e, ha⟩ := qlW s hp.1 h;obtain ⟨d', e1, e2, _⟩ := qaO hs a;rw [e1] at e;cases e;exact ⟨a, e2.symm, ha⟩
   have agg : isAgg s = true->(∃ cs, d = .agg cs/\qx2 s cs)->∃ a, d = qxA s a/\Rg s a := by
    rintro hs ⟨cs, rfl, h⟩;obtain ⟨a, rfl, ha⟩ := qlW s hp.1 h;exact ⟨a, (qaN hs a).symm, ha⟩
   cases s with
   | nil => exact agg rfl h1
   | cons a b => exact agg rfl h1
   | _ => exact one rfl h1
  obtain ⟨a, rfl, ha⟩ := this;exact ⟨(a, b), rfl, ha, hb⟩
theorem law_ofT {P : Program} {lb : LbT} {M T : List (FuncId × TCn)} (h : Tbl P lb M T) (f : FuncId) {args : List Sh} {g : El (qk3 args)->Option (El (qiW [.bool]))} (hf : qq3 T f = some ⟨args, [.bool], g⟩) (hp : args.all qxJ = true) (hg : ∀ a, Rg (qk3 args) a->g a = some true) : qtH P f args := by
 have hv : qdF P f (qm3 ⟨args, [.bool], g⟩) := by
  have := h.con f;simp only [qiY, hf] at this;exact this
 refine law_of_valT hv (fun dvs hd => ?_);obtain ⟨a, rfl, ha⟩ := zb8 args hp hd;rw [qw1 ⟨args, [.bool], g⟩ a rfl];show (g a).map _ = _;rw [hg a ha];rfl
end Go.AI
