/- Functions: what is shown of a body is the function's contract. -/
import Derived.Test.YtpolaeonmmolnaaAIx
namespace Go.AI
set_option linter.unusedVariables false
set_option linter.unusedSimpArgs false

inductive ARes where
  | tmp (t : Nat)
  | cell (t n : Nat) (agg : Bool)

structure AFn where
  code : ACode
  res : List ARes
  ntmps : Nat

def cRes (P : Program) : ResultVar → Option ARes
  | .tmp t => some (.tmp t)
  | .cell x t => match P.underlying t with
    | some _ => some (.cell x (P.cellsOf t) (isAggB P t))
    | none => none

def cRess (P : Program) : List ResultVar → Option (List ARes)
  | [] => some []
  | r :: l => match cRes P r, cRess P l with
    | some x, some m => some (x :: m)
    | _, _ => none

def compF (P : Program) (f : FuncId) : Option AFn :=
  match P.funcs[f]? with
  | some fn => match fn.body, cRess P fn.results.toList with
    | some c, some rs => if fn.name == "runtime.NumGoroutine" then none else (compC P c).map fun ac => ⟨ac, rs, fn.ntmps⟩
    | _, _ => none
  | none => none

def res1 (s : St) : ARes → Option AV
  | .tmp t => some (unw true (look s.env.l t))
  | .cell t n agg => loadA s.H n agg (unw true (look s.env.l t))

def ress (s : St) : List ARes → Option (List AV)
  | [] => some []
  | r :: l => match res1 s r, ress s l with
    | some x, some m => some (x :: m)
    | _, _ => none

/-- What a function answers. -/
def outA (s : St) (rs : List ARes) : Option AV :=
  match ress s rs with
  | some [x] => some x
  | some l => some (.tup l)
  | none => none

def enumE : Nat → List AV → List (Nat × AV)
  | _, [] => []
  | i, x :: l => (i, x) :: enumE (i + 1) l

def env0 (avs : List AV) (n : Nat) : Env := ⟨avs.length + (n - avs.length), enumE 0 avs⟩

def retQ (K : St → Prop) : Exit → St → Prop
  | .normal, s => K s
  | .ret, s => K s
  | _, _ => False

/-- The data of an answer, once some blocks stay as they are. -/
def outD (H : Hp) : AV → Option DV
  | .tup l => (argDs H 99 l).map fun (ds, _) => .tup ds
  | x => (argD H 99 x).map fun (d, _) => d

def outV (s : St) (rs : List ARes) : Option DV := (outA s rs).bind (outD s.H)

section
variable {P : Program} {J J0 : Id → JI} {F F0 : Nat → Prop} {w w0 : World} {H : Hp} {a : Act} {C : FuncId → Con} {B : Id → Prop}

theorem loadVar_run {t : TypeId} {v u : Value} {p : Addr} (hv : v = .pointer (some p)) (h : (Instr.loadAt t v).run P w = .ok u w) : (do loadVar t (← asAddr v) : Sem Value).run P w = .ok u w := by
  subst hv
  simpa [Instr.loadAt, Instr.sureAddr, asAddr] using h

theorem loadA_ptr {n : Nat} {agg : Bool} {x y : AV} {v : Value} (hv : VRel J F w x v) (h : loadA H n agg x = some y) : ∃ p, v = .pointer (some p) := by
  cases x <;> simp only [loadA, reduceCtorEq] at h
  case val d =>
    cases d <;> simp only [reduceCtorEq] at h
    cases hv.inv_val
    exact ⟨_, rfl⟩
  case box => cases hv <;> exact ⟨_, rfl⟩
  case elt => cases hv <;> exact ⟨_, rfl⟩

/-- What a result variable has at the end. -/
def resOne (tmps : Array Value) : ResultVar → Sem Value
  | .tmp t => pure (tmps.getD t undef)
  | .cell x t => do loadVar t (← asAddr (tmps.getD x undef))

theorem results_eq (fn : Func) (tmps : Array Value) : results fn tmps = (do
    let vs ← fn.results.mapM (resOne tmps)
    pure (if h : vs.size = 1 then vs[0] else .tuple vs)) := rfl

theorem ress_run {s : St} (hE : ERel J F w s.env a.tmps) (hH : HRel J F w s.H) : ∀ (rs : List ResultVar) (ms : List ARes) (xs : List AV), cRess P rs = some ms → ress s ms = some xs →
    ∃ vs : List Value, (rs.mapM (resOne a.tmps)).run P w = .ok vs w ∧ vs.length = xs.length ∧ ∀ (j : Nat) x v, xs[j]? = some x → vs[j]? = some v → VRel J F w x v
  | [], ms, xs, hc, hx => by
    cases hc
    simp only [ress, Option.some.injEq] at hx
    subst hx
    exact ⟨[], rfl, rfl, by simp⟩
  | r :: rs, ms, xs, hc, hx => by
    simp only [cRess] at hc
    split at hc
    · rename_i m ms' hm hms
      cases hc
      simp only [ress] at hx
      split at hx
      · rename_i x xs' h1 h2
        cases hx
        obtain ⟨vs, h3, h4, h5⟩ := ress_run hE hH rs ms' xs' hms h2
        have hone : ∃ v, (resOne a.tmps r).run P w = .ok v w ∧ VRel J F w x v := by
          cases r with
          | tmp t =>
            cases hm
            simp only [res1, Option.some.injEq] at h1
            subst h1
            exact ⟨_, rfl, unw_rel (hE.ev (x := .tmp t) (y := .t t) rfl)⟩
          | cell t ty =>
            simp only [cRes] at hm
            split at hm
            · rename_i d hd
              cases hm
              simp only [res1] at h1
              have hv := unw_rel (hE.ev (x := .tmp t) (y := .t t) rfl)
              obtain ⟨u, hu, hr⟩ := load_sound hH hd hv h1
              obtain ⟨p, hp⟩ := loadA_ptr hv h1
              exact ⟨u, loadVar_run hp hu, hr⟩
            · cases hm
        obtain ⟨v, hv, hr⟩ := hone
        refine ⟨v :: vs, ?_, by simp [h4], ?_⟩
        · rw [List.mapM_cons]
          simp only [Sem.run_bind, hv, Result.andThen_ok, h3, Sem.run_pure]
        · intro j x' v' q1 q2
          cases j with
          | zero => simp at q1 q2; subst q1; subst q2; exact hr
          | succ j => simp at q1 q2; exact h5 j x' v' q1 q2
      · cases hx
    · cases hc

theorem outA_run {s : St} (hE : ERel J F w s.env a.tmps) (hH : HRel J F w s.H) {fn : Func} {ms : List ARes} {x : AV} (hc : cRess P fn.results.toList = some ms) (hx : outA s ms = some x) : ∃ v, (results fn a.tmps).run P w = .ok v w ∧ VRel J F w x v := by
  unfold outA at hx
  have key : ∀ xs, ress s ms = some xs → ∃ vs : List Value, (results fn a.tmps).run P w = .ok (if h : vs.toArray.size = 1 then vs.toArray[0] else .tuple vs.toArray) w ∧ vs.length = xs.length ∧ ∀ (j : Nat) x v, xs[j]? = some x → vs[j]? = some v → VRel J F w x v := by
    intro xs hxs
    obtain ⟨vs, h1, h2, h3⟩ := ress_run hE hH _ _ _ hc hxs
    refine ⟨vs, ?_, h2, h3⟩
    rw [results_eq]
    simp only [Sem.run_bind]
    have : (fn.results.mapM (resOne a.tmps)).run P w = .ok vs.toArray w := by
      rw [Array.mapM_eq_mapM_toList]
      simp only [map_eq_pure_bind, Sem.run_bind, h1, Result.andThen_ok, Sem.run_pure]
    rw [this]
    simp only [Result.andThen_ok, Sem.run_pure]
  split at hx
  · rename_i x' hxs
    cases hx
    obtain ⟨vs, h1, h2, h3⟩ := key _ hxs
    match vs, h2 with
    | [v], _ =>
      refine ⟨v, by rw [h1]; rfl, h3 0 x v rfl rfl⟩
  · rename_i l hno hl
    cases hx
    obtain ⟨vs, h1, h2, h3⟩ := key _ hl
    have hne : ¬ vs.toArray.size = 1 := by
      intro h
      simp at h
      rw [h2] at h
      match l, h with
      | [x], _ => exact hno x rfl
    rw [dif_neg hne] at h1
    exact ⟨_, h1, .tup _ _ h2 h3⟩
  · cases hx

theorem look_enum : ∀ (l : List AV) (i t : Nat), look (enumE i l) t = if i ≤ t then l.getD (t - i) .junk else .junk
  | [], i, t => by simp [enumE, look]
  | x :: l, i, t => by
    simp only [enumE, look, look_enum l (i + 1) t]
    by_cases e : i = t
    · subst e; simp
    · rw [if_neg e]
      by_cases h : i ≤ t
      · rw [if_pos h, if_pos (by omega), show t - i = (t - (i + 1)) + 1 by omega]
        rfl
      · rw [if_neg h, if_neg (by omega)]

theorem env0_rel {avs : List AV} {vs : List Value} (h : vs.length = avs.length ∧ ∀ (j : Nat) y v, avs[j]? = some y → vs[j]? = some v → VRel J F w y v) (n : Nat) : ERel J F w (env0 avs n) (vs.toArray ++ Array.replicate (n - vs.toArray.size) undef) := by
  refine ⟨by simp [env0, h.1], fun j v h2 => ?_, fun t ht => ?_⟩
  · simp only [env0, look_enum, Nat.zero_le, if_true, Nat.sub_zero, List.getD_eq_getElem?_getD]
    cases hq : avs[j]? with
    | none => exact .junk _
    | some y =>
      have hj : j < avs.length := (List.getElem?_eq_some_iff.1 hq).1
      rw [Array.getElem?_append_left (by simpa [h.1] using hj)] at h2
      exact h.2 j y v hq (by simpa using h2)
  · simp only [env0] at ht
    simp only [env0, look_enum, Nat.zero_le, if_true, Nat.sub_zero, List.getD_eq_getElem?_getD]
    rw [List.getElem?_eq_none (by omega)]
    rfl

theorem compF_inv {f : FuncId} {af : AFn} (h : compF P f = some af) : ∃ fn c, P.funcs[f]? = some fn ∧ fn.body = some c ∧ compC P c = some af.code ∧ cRess P fn.results.toList = some af.res ∧ fn.ntmps = af.ntmps ∧ Enters P f := by
  unfold compF at h
  split at h
  · rename_i fn hfn
    split at h
    · rename_i c rs hb hr
      split at h
      · cases h
      · rename_i hname
        simp only [Option.map_eq_some_iff] at h
        obtain ⟨ac, hac, rfl⟩ := h
        exact ⟨fn, c, hfn, hb, hac, hr, rfl, fn, hfn, by simpa using hname, by rw [hb]; rfl⟩
    · cases h
  · cases h

/-- **What is shown of a body holds of a call.** -/
theorem calls_of (hC : ConOk P C) {f : FuncId} {af : AFn} (hf : compF P f = some af) {ns : Id} {avs : List AV} {vs : List Value} (hH : HRel J F w H) (hv : vs.length = avs.length ∧ ∀ (j : Nat) y v, avs[j]? = some y → vs[j]? = some v → VRel J F w y v)
    {K : St → Prop} (h : wpA C ns B af.code (retQ K) ⟨env0 avs af.ntmps, H⟩) {R : Ending → World → Prop}
    (hR : ∀ (s : St) (a' : Act) (w' : World) (J' : Id → JI) (F' : Nat → Prop), ERel J' F' w' s.env a'.tmps → HRel J' F' w' s.H → Ext0 B J F w J' F' w' → K s → ∃ x, outA s af.res = some x ∧ ∀ v, VRel J' F' w' x v → R (.returned v) w') : Calls P f vs.toArray w R := by
  obtain ⟨fn, c, h1, h2, h3, h4, h5, _⟩ := compF_inv hf
  refine calls_of_wp h1 h2 ?_
  rw [h5]
  refine wpA_sound (B := B) (J0 := J) (F0 := F) (w0 := w) (d0 := []) hC c af.code h3 _ _ _ _ _ ⟨J, F, env0_rel hv af.ntmps, hH, Ext0.refl _ _ _, rfl⟩ h ?_
  rintro e s a' w' ⟨J', F', hE', hH', hX', hd'⟩ hq
  have done : K s → Act.defers a' = [] ∧ ∃ v, (results fn (Act.tmps a')).run P w' = .ok v w' ∧ R (.returned v) w' := by
    intro hk
    obtain ⟨x, hx, hr⟩ := hR s a' w' J' F' hE' hH' hX' hk
    obtain ⟨v, hv1, hv2⟩ := outA_run hE' hH' h4 hx
    exact ⟨hd', v, hv1, hr v hv2⟩
  cases e <;> first | exact done hq | exact hq.elim

theorem nothing (F : Nat → Prop) (w : World) (hF : ∀ g, F g → g < w.heap.size) : HRel (fun _ => .none) F w (fun _ => none) :=
  { blk := fun _ _ h => by cases h
    none := fun _ _ => rfl
    inj := fun _ _ _ _ _ _ _ _ _ h => by cases h
    own := fun g ⟨_, _, _, h⟩ => by cases h
    live := fun _ _ _ _ _ h => by cases h
    fsz := hF }


/-- **A function that answers data of data.** -/
theorem val_of (hC : ConOk P C) {f : FuncId} {af : AFn} (hf : compF P f = some af) {spec : List DV → Option DV}
    (h : ∀ ds r, spec ds = some r → wpA C [] (fun _ => False) af.code (retQ fun s => outV s af.res = some r) ⟨env0 (ds.map .val) af.ntmps, mkH []⟩) : ValOk P f spec := by
  obtain ⟨fn, c, _, _, _, _, _, hent⟩ := compF_inv hf
  refine ⟨hent, fun ds r hr F w vs hrep hF => ?_⟩
  refine calls_of hC hf (J := fun _ => .none) (nothing F w hF) (avs := ds.map .val) ⟨by simp [hrep.1], fun j y v h1 h2 => ?_⟩ (h ds r hr) ?_
  · simp only [List.getElem?_map, Option.map_eq_some_iff] at h1
    obtain ⟨d, h1, rfl⟩ := h1
    exact .val _ _ (hrep.2 j d v h1 h2)
  · intro s a' w' J' F' hE' hH' hX' hk
    unfold outV at hk
    simp only [Option.bind_eq_some_iff] at hk
    obtain ⟨x, hx, hd⟩ := hk
    refine ⟨x, hx, fun v hv => ?_⟩
    have hnew : ∀ g, F' g ∨ Own J' g → F g ∨ w.heap.size ≤ g := by
      rintro g (h1 | h1)
      · rcases hX'.fnew g h1 with h2 | ⟨_, _, _, h2⟩ | h2
        · exact .inl h2
        · cases h2
        · exact .inr h2
      · rcases hX'.onew g h1 with ⟨_, _, _, h2⟩ | h2
        · cases h2
        · exact .inr h2
    have hsz : ∀ g, F' g ∨ Own J' g → g < w'.heap.size := by
      rintro g (h1 | ⟨_, _, _, h1⟩)
      · exact hH'.fsz g h1
      · exact hH'.live _ _ _ _ _ h1
    have hrel : Rep (fun g => F' g ∨ Own J' g) w' r v := by
      have widen : ∀ ids g, With J' F' ids g → F' g ∨ Own J' g := fun ids g h => h.imp (fun h => h) (fun ⟨i, _, s, c, h⟩ => ⟨i, s, c, h⟩)
      unfold outD at hd
      split at hd
      · rename_i l
        simp only [Option.map_eq_some_iff] at hd
        obtain ⟨⟨ds', ids⟩, hds, rfl⟩ := hd
        obtain ⟨hl, hr⟩ := (argD_rel hH' 99).2 _ _ _ hds
        cases hv with
        | tup _ us hul hur =>
          refine .tup _ _ (by rw [hul, hl]) (fun j d u q1 q2 => ?_)
          have hj : j < l.length := by rw [← hl]; exact (List.getElem?_eq_some_iff.1 q1).1
          exact (hr j _ d u (List.getElem?_eq_getElem hj) q1 (hur j _ u (List.getElem?_eq_getElem hj) q2)).mono (widen ids) (fun _ _ => rfl)
      · simp only [Option.map_eq_some_iff] at hd
        obtain ⟨⟨d, ids⟩, hds, rfl⟩ := hd
        exact ((argD_rel hH' 99).1 _ _ _ v hds hv).mono (widen ids) (fun _ _ => rfl)
    exact ⟨v, _, rfl, hrel, hnew, hsz, ⟨fun g hg => hX'.heap g hg (by rintro ⟨_, _, _, h⟩; cases h), hX'.size, hX'.os, hX'.tape, hX'.output⟩⟩

end
end Go.AI
