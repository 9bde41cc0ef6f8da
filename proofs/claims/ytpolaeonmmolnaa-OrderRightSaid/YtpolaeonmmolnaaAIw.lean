/- Steps: an operation behind its guard; a region. -/
import Derived.Test.YtpolaeonmmolnaaAIv
import Derived.Tactics
namespace Go.AI
set_option linter.unusedVariables false
set_option linter.unusedSimpArgs false

/-- Does a guard hold? -/
def gv (env : Env) : Option (Nat × Bool) → Option Bool
  | none => some true
  | some (t, want) => match look env.l t with
    | .val (.bool b) => some (b == want)
    | .may c (.val (.bool b)) => some (c && (b == want))
    | .may false _ => some false
    | .val (.tup []) => some false
    | _ => none

def putE (env : Env) (dst : Option Nat) (x : AV) : Env :=
  match dst with
  | some d => if d < env.n then ⟨env.n, (d, x) :: env.l⟩ else env
  | none => env

/-- What neither makes nor writes, and calls nothing. -/
def calm : AOp → Bool
  | .p _ => true
  | .r (.load ..) => true
  | _ => false

def idOf (i : AIns) (ns : Id) : Id := i.dst.getD 0 :: ns

def effG (C : FuncId → Con) (ns : Id) (s : St) (i : AIns) (g : Bool) : Option (AV × Hp) :=
  if (calm i.op && i.guard.isSome) = true then
    match semE C s.H (fun x => unw g (evE s.env x)) (fun t x => unw (g && t) (evE s.env x)) ns (idOf i ns) i.op with
    | some (x, _) => some (.may g x, s.H)
    | none => bif g then none else some (.val (.tup []), s.H)
  else
    bif g then semE C s.H (fun x => unw true (evE s.env x)) (fun t x => unw t (evE s.env x)) ns (idOf i ns) i.op else some (.val (.tup []), s.H)

def eff (C : FuncId → Con) (ns : Id) (s : St) (i : AIns) : Option (AV × Hp) :=
  match gv s.env i.guard with
  | some g => effG C ns s i g
  | none => none

def step (C : FuncId → Con) (ns : Id) (s : St) (i : AIns) : Option St :=
  match eff C ns s i with
  | some (x, H) => some ⟨putE s.env i.dst x, H⟩
  | none => none

def run (C : FuncId → Con) (ns : Id) : List AIns → St → Option St
  | [], s => some s
  | i :: l, s => match step C ns s i with
    | some s' => run C ns l s'
    | none => none

def cIns (P : Program) (ops : Array Oper) (o : Oper) : Option AIns :=
  match compOp P o, o.guard with
  | some p, none => some ⟨o.dst, p, none⟩
  | some p, some (j, want) => match (ops[j]?).bind (·.dst) with
    | some d => some ⟨o.dst, p, some (d, want)⟩
    | none => none
  | none, _ => none

def cInss (P : Program) (ops : Array Oper) : List Oper → Option (List AIns)
  | [] => some []
  | o :: l => match cIns P ops o, cInss P ops l with
    | some i, some m => some (i :: m)
    | _, _ => none

section
variable {P : Program} {J J0 : Id → JI} {F F0 : Nat → Prop} {w w0 : World} {H : Hp} {a : Act} {C : FuncId → Con} {s s' : St}

theorem unw_rel {x : AV} {v : Value} (h : VRel J F w x v) : VRel J F w (unw true x) v := by
  unfold unw
  split
  · rename_i c x
    cases c with
    | false => exact .junk _
    | true =>
      cases h with
      | may _ _ _ h _ => exact h rfl
  · exact h

theorem orel (h : ERel J F w s.env a.tmps) : ORel J F w (fun x => unw true (evE s.env x)) a :=
  ⟨fun x y hc => unw_rel (h.ev hc), fun d => rfl⟩

theorem put_rel {env : Env} (h : ERel J F w env a.tmps) {x : AV} {v : Value} (hv : VRel J F w x v) (dst : Option Nat) : ERel J F w (putE env dst x) (a.put dst v).tmps := by
  cases dst with
  | none => exact h
  | some d =>
    simp only [putE, Act.put]
    split
    · rename_i hd
      refine ⟨by simp [h.1], fun t u h2 => ?_, fun t ht => ?_⟩
      · simp only [Array.getElem?_setIfInBounds] at h2
        simp only [look]
        by_cases e : d = t
        · subst e
          rw [if_pos rfl] at h2 ⊢
          split at h2
          · cases h2; exact hv
          · cases h2
        · rw [if_neg e] at h2 ⊢
          exact h.2.1 t u h2
      · simp only [look]
        simp only at ht
        rw [if_neg (by omega)]
        exact h.2.2 t ht
    · rename_i hd
      have : a.tmps.setIfInBounds d v = a.tmps := by
        have : a.tmps.size ≤ d := by rw [← h.1]; omega
        simp [Array.setIfInBounds, Nat.not_lt.2 this]
      rw [this]
      exact h

theorem undef_rel : VRel J F w (.val (.tup [])) undef := .val _ _ (Rep.tup [] [] rfl (by simp))

/-- A guard. -/
theorem gv_rel (h : ERel J F w s.env a.tmps) {ops : Array Oper} {o : Oper} {i : AIns} (hc : cIns P ops o = some i) {g : Bool} (hg : gv s.env i.guard = some g) : Region.wanted o (yielded ops a.tmps) = g := by
  unfold cIns at hc
  split at hc
  · rename_i hgd
    cases hc
    simp only [gv, Option.some.injEq] at hg
    subst hg
    simp [Region.wanted, hgd]
  · rename_i p j want hp hgd
    split at hc
    · rename_i d hd
      cases hc
      simp only [Region.wanted, hgd, yielded, hd, Option.bind_some]
      simp only [gv] at hg
      have hev : ∀ {x : AV}, look s.env.l d = x → x ≠ .junk → ∃ v, a.tmps[d]? = some v ∧ VRel J F w x v := by
        intro x hx hj
        have hlt : d < a.tmps.size := by
          rcases Nat.lt_or_ge d a.tmps.size with h1 | h1
          · exact h1
          · rw [h.2.2 d (by rw [h.1]; exact h1)] at hx
            exact absurd hx.symm hj
        have h2 : a.tmps[d]? = some a.tmps[d] := Array.getElem?_eq_getElem hlt
        have := h.2.1 d _ h2
        rw [hx] at this
        exact ⟨_, h2, this⟩
      split at hg
      · rename_i b hb
        cases hg
        obtain ⟨v, h1, h2⟩ := hev hb (by simp)
        rw [h1, h2.bool]
        simp
      · rename_i c b hb
        cases hg
        obtain ⟨v, h1, h2⟩ := hev hb (by simp)
        rw [h1]
        cases h2 with
        | may _ _ _ h2 h3 =>
          cases c with
          | true => rw [(h2 rfl).bool]; simp
          | false => rw [h3 rfl]; simp [undef]
      · rename_i hb
        cases hg
        obtain ⟨v, h1, h2⟩ := hev hb (by simp)
        rw [h1]
        cases h2 with
        | may _ _ _ h2 h3 => rw [h3 rfl]; simp [undef]
      · rename_i hb
        cases hg
        obtain ⟨v, h1, h2⟩ := hev hb (by simp)
        cases h2.inv_val with
        | tup _ vs hl _ =>
          have : vs = [] := List.eq_nil_of_length_eq_zero (by simpa using hl)
          subst this
          rw [h1]
          simp
      · cases hg
    · cases hc
  · cases hc

theorem cIns_op {ops : Array Oper} {o : Oper} {i : AIns} (hc : cIns P ops o = some i) : compOp P o = some i.op ∧ i.dst = o.dst ∧ i.guard.isSome = o.guard.isSome := by
  unfold cIns at hc
  split at hc
  · rename_i p hp hg
    cases hc
    exact ⟨hp, rfl, by rw [hg]⟩
  · rename_i p j want hp hg
    split at hc
    · cases hc
      exact ⟨hp, rfl, by rw [hg]; rfl⟩
    · cases hc
  · cases hc

/-- From one moment of a function's run to a later one. -/
def Moves (J : Id → JI) (F : Nat → Prop) (w : World) (s' : St) (a a' : Act) (w' : World) : Prop :=
  ∃ J' F', ERel J' F' w' s'.env a'.tmps ∧ HRel J' F' w' s'.H ∧ Ext J F w J' F' w' ∧ a'.defers = a.defers

theorem calm_heap {ρ : Opd → AV} {ρp : Bool → Opd → AV} {ns id : Id} {p : AOp} (hc : calm p = true) {x : AV} {H' : Hp} (h : semE C H ρ ρp ns id p = some (x, H')) : H' = H := by
  unfold calm at hc
  split at hc
  · simp only [semE, Option.map_eq_some_iff, Prod.mk.injEq] at h
    obtain ⟨_, _, _, h⟩ := h
    exact h.symm
  · simp only [semE, Option.map_eq_some_iff, Prod.mk.injEq] at h
    obtain ⟨_, _, _, h⟩ := h
    exact h.symm
  · cases hc

theorem Oper.wp_mono' {o : Oper} {K K' : Act → World → Prop} {Q : Exit → Act → World → Prop} (h : ∀ a w, K a w → K' a w) (hh : o.wp P a w K Q) : o.wp P a w K' Q := Oper.wp_mono h hh

/-- **A step.** -/
theorem step_sound (hC : ConOk P C) {ns : Id} {ops : Array Oper} {o : Oper} {i : AIns} (hc : cIns P ops o = some i) (hE : ERel J F w s.env a.tmps) (hH : HRel J F w s.H) (hs : step C ns s i = some s') :
    (Region.wanted o (yielded ops a.tmps) = true ∧ ∀ Q, o.wp P a w (fun a' w' => Moves J F w s' a a' w') Q) ∨
    (Region.wanted o (yielded ops a.tmps) = false ∧ Moves J F w s' a (a.put o.dst undef) w) := by
  obtain ⟨hop, hdst, _⟩ := cIns_op hc
  unfold step at hs
  split at hs
  · rename_i y H1 hs'
    simp only [Option.some.injEq] at hs
    subst hs
    unfold eff at hs'
    split at hs'
    · rename_i g hg
      have hw := gv_rel hE hc hg
      have off : VRel J F w y undef → H1 = s.H → Moves J F w ⟨putE s.env i.dst y, H1⟩ a (a.put o.dst undef) w := by
        intro hx he
        subst he
        refine ⟨J, F, ?_, hH, Ext.refl _ _ _, ?_⟩
        · rw [← hdst]; exact put_rel hE hx _
        · cases o.dst <;> rfl
      have on : ∀ {x : AV}, semE C s.H (fun x => unw true (evE s.env x)) (fun t x => unw t (evE s.env x)) ns (idOf i ns) i.op = some (x, H1) → (∀ J F w v, VRel J F w x v → VRel J F w y v) →
          ∀ Q, o.wp P a w (fun a' w' => Moves J F w ⟨putE s.env i.dst y, H1⟩ a a' w') Q := by
        intro x hx hxy Q
        refine Oper.wp_mono ?_ (op_sound hC hH (orel hE) (fun b hb => by subst hb; exact orel hE) hop hx Q)
        rintro a' w' ⟨v, J', F', rfl, h1, h2, h3⟩
        refine ⟨J', F', ?_, h2, h3, ?_⟩
        · rw [← hdst]; exact put_rel (hE.ext hH h3) (hxy _ _ _ _ h1) _
        · cases o.dst <;> rfl
      unfold effG at hs'
      split at hs'
      · rename_i hcalm
        simp only [Bool.and_eq_true] at hcalm
        cases g with
        | true =>
          refine .inl ⟨hw, ?_⟩
          split at hs'
          · rename_i x H' hx
            simp only [Option.some.injEq, Prod.mk.injEq] at hs'
            have := calm_heap hcalm.1 hx
            obtain ⟨rfl, rfl⟩ := hs'
            rw [this] at hx
            exact on hx (fun J F w v h => .may true x v (fun _ => h) (by simp))
          · cases hs'
        | false =>
          refine .inr ⟨hw, ?_⟩
          split at hs'
          · rename_i x H' hx
            simp only [Option.some.injEq, Prod.mk.injEq] at hs'
            obtain ⟨rfl, rfl⟩ := hs'
            exact off (.may false x _ (by simp) (fun _ => rfl)) rfl
          · simp only [cond_false, Option.some.injEq, Prod.mk.injEq] at hs'
            obtain ⟨rfl, rfl⟩ := hs'
            exact off undef_rel rfl
      · cases g with
        | true => exact .inl ⟨hw, on (x := y) (by simpa using hs') (fun _ _ _ _ h => h)⟩
        | false =>
          refine .inr ⟨hw, ?_⟩
          simp only [cond_false, Option.some.injEq, Prod.mk.injEq] at hs'
          obtain ⟨rfl, rfl⟩ := hs'
          exact off undef_rel rfl
    · cases hs'
  · cases hs

theorem Moves.trans {s1 s2 : St} {a1 a2 : Act} {w1 w2 : World} {J1 : Id → JI} {F1 : Nat → Prop} (h1 : Ext J F w J1 F1 w1) (hd : a1.defers = a.defers) (h2 : Moves J1 F1 w1 s2 a1 a2 w2) : Moves J F w s2 a a2 w2 := by
  obtain ⟨J', F', h3, h4, h5, h6⟩ := h2
  exact ⟨J', F', h3, h4, h1.trans h5, h6.trans hd⟩

/-- **A region that draws nothing.** -/
theorem run_sound (hC : ConOk P C) {ns : Id} {ops : Array Oper} {Q : Exit → Act → World → Prop} : ∀ (l : List Oper) (m : List AIns) (J : Id → JI) (F : Nat → Prop) (w : World) (a : Act) (s s' : St), cInss P ops l = some m → ERel J F w s.env a.tmps → HRel J F w s.H →
    run C ns m s = some s' → (∀ a' w', Moves J F w s' a a' w' → Q .normal a' w') → wpList P ops Q l a w
  | [], m, J, F, w, a, s, s', hc, hE, hH, hs, hQ => by
    cases hc
    simp only [run, Option.some.injEq] at hs
    subst hs
    exact hQ a w ⟨J, F, hE, hH, Ext.refl _ _ _, rfl⟩
  | o :: l, m, J, F, w, a, s, s', hc, hE, hH, hs, hQ => by
    simp only [cInss] at hc
    split at hc
    · rename_i i m' hi hm
      cases hc
      simp only [run] at hs
      split at hs
      · rename_i s1 hs1
        unfold wpList
        have next : ∀ a1 w1, Moves J F w s1 a a1 w1 → wpList P ops Q l a1 w1 := by
          rintro a1 w1 ⟨J1, F1, h1, h2, h3, h4⟩
          exact run_sound hC l m' J1 F1 w1 a1 s1 s' hm h1 h2 hs (fun a' w' h => hQ a' w' (Moves.trans (s1 := s1) h3 h4 h))
        rcases step_sound hC hi hE hH hs1 with ⟨hw, h⟩ | ⟨hw, h⟩
        · rw [if_pos hw]
          exact .inl (Oper.wp_mono next (h Q))
        · rw [hw]
          exact next _ _ h
      · cases hs
    · cases hc

end
end Go.AI
