/- Ways that come together, and loops, beside the code. -/
import Derived.Test.YtpolaeonmmolnaaALd
namespace Go.AI
set_option linter.unusedVariables false
set_option linter.unusedSimpArgs false

/-- A value that is given a name. -/
def bindP {α ρ : Type} (v : α) (f : α → Option ρ) : Option ρ := f v

/-- Does a statement at a normal end stand where more is known? -/
def QN (B : Id → Prop) (Q : Exit → St → Prop) : Prop := ∀ s s0, Sub B s s0 → QP Q .normal s0 → QP Q .normal s

section
variable {ρ α : Type} {A p : ρ → Prop} {P : Program} {C : FuncId → Con} {B : Id → Prop} {K : ρ → St → Prop} {Q : ρ → Exit → St → Prop} {x y c : ACode} {s s0 : St} {o : Option ρ}

theorem q_bindP {v : α} {f : α → Option ρ} (h : Imq (f v) A p) : Imq (bindP v f) A p := h
theorem q_and {t e : Bool} {f : Bool → Option ρ} (h : Imq ((bif t then some e else some false).bind f) A p) : Imq (bindP (t && e) f) A p := by cases t <;> exact h
theorem q_or {t e : Bool} {f : Bool → Option ρ} (h : Imq ((bif t then some true else some e).bind f) A p) : Imq (bindP (t || e) f) A p := by cases t <;> exact h
theorem q_bind1 {v : α} {f : α → Option ρ} (h : Imq ((some v).bind f) A p) : Imq (bindP v f) A p := h

theorem q_two (t : Bool) (h1 : t = true → Imq o A p) (h2 : t = false → Imq o A p) : Imq o A p := by
  cases t
  · exact h2 rfl
  · exact h1 rfl
theorem Wk_and1 {t e : Bool} (h : t = true) : Wk (.val (.bool e)) (.val (.bool (t && e))) := by subst h; exact .refl _
theorem Wk_and0 {t e : Bool} (h : t = false) : Wk (.val (.bool false)) (.val (.bool (t && e))) := by subst h; exact .refl _
theorem Wk_lit {b e : Bool} (h : e = b) : Wk (.val (.bool b)) (.val (.bool e)) := by subst h; exact .refl _
theorem Wk_or1 {t e : Bool} (h : t = true) : Wk (.val (.bool true)) (.val (.bool (t || e))) := by subst h; exact .refl _
theorem Wk_or0 {t e : Bool} (h : t = false) : Wk (.val (.bool e)) (.val (.bool (t || e))) := by subst h; exact .refl _
theorem G_pure {ops l : List AIns} {st : St} (h1 : Imq o A fun r => RP P C B l (K r) st) (h2 : ∀ r, Imq (some ()) (fun _ => RP P C B l (K r) st) fun _ => RP P C B ops (K r) s) : Imq o A fun r => RP P C B ops (K r) s :=
  q_mono (fun r h => h2 r () rfl h) h1

theorem QN_then {Q Q' : Exit → St → Prop} : QN B (thenA (WP P C B y Q') Q) := fun _ _ hs h => WP_sub hs h
theorem QN_round {Q Q' : Exit → St → Prop} : QN B (thenA (RD P C B y Q') Q) := fun _ _ hs h => RD_sub hs h
theorem QN_inB {Q : Exit → St → Prop} {i : Nat} (h : QN B Q) : QN B (inBlockA i Q) := h

theorem G_join {xo : Option α} {f : α → Option ρ} {st : α → St} (h1 : ∀ v, Imq (f v) A fun r => QP (Q r) .normal (st v)) (h2 : ∀ r, A r → Imq xo (fun v => QP (Q r) .normal (st v)) fun _ => WP P C B c (Q r) s) :
    Imq (xo.bind f) A fun r => WP P C B c (Q r) s := q_join (fun v r => QP (Q r) .normal (st v)) h1 h2

/-- What comes out early. -/
def outE {α ρ : Type} (f : α → Option ρ) : α ⊕ ρ → Option ρ
  | .inl v => f v
  | .inr r => some r

theorem G_joinX {xo : Option (α ⊕ ρ)} {f : α → Option ρ} {st : α → St} (h1 : ∀ v, Imq (f v) A fun r => QP (Q r) .normal (st v))
    (h2 : ∀ r, A r → Imq xo (fun y => match y with | .inl v => QP (Q r) .normal (st v) | .inr r' => r' = r) fun _ => WP P C B c (Q r) s) :
    Imq (xo.bind (outE f)) A fun r => WP P C B c (Q r) s := by
  refine q_join (fun y r => match y with | .inl v => QP (Q r) .normal (st v) | .inr r' => r' = r) ?_ h2
  intro y
  cases y with
  | inl v => exact h1 v
  | inr r' => exact q_some fun _ => rfl

theorem G_joinR {ops l : List AIns} {xo : Option α} {f : α → Option ρ} {st : α → St} (h1 : ∀ v, Imq (f v) A fun r => RP P C B l (K r) (st v)) (h2 : ∀ r, A r → Imq xo (fun v => RP P C B l (K r) (st v)) fun _ => RP P C B ops (K r) s) :
    Imq (xo.bind f) A fun r => RP P C B ops (K r) s := q_join (fun v r => RP P C B l (K r) (st v)) h1 h2

section
variable {τ ε : Type} {step : τ → Option (τ ⊕ ε)} {k : Nat}

theorem G_loopX {f : ε → Option ρ} {enc : τ → St} (W : ε → ρ → Prop) {t0 : τ} (hs : Sub B s (enc t0)) (h1 : ∀ e, Imq (f e) A (W e))
    (h2 : ∀ r, A r → ∀ (R : St → Prop) t, Imq (step t) (fun y => match y with | .inl t' => ∀ s', Sub B s' (enc t') → R s' | .inr e => W e r) fun _ => WP P C B x (thenA R (inBlockA k (Q r))) (enc t)) :
    Imq ((loopO step t0).bind f) A fun r => WP P C B (.block k (.loop x)) (Q r) s := by
  refine q_join W h1 fun r hr => ?_
  intro e he hk
  obtain ⟨n, hn⟩ := loopO_iff.1 he
  refine WP_block (WP_loop ?_)
  clear he
  induction n generalizing t0 s with
  | zero => cases hn
  | succ n ih =>
    unfold iterO at hn
    split at hn
    · rename_i t' ht
      exact RD_step hs (h2 r hr (RD P C B x (inBlockA k (Q r))) t0 _ ht fun s' hs' => ih hs' hn)
    · rename_i e' ht
      cases hn
      exact RD_step hs (h2 r hr (RD P C B x (inBlockA k (Q r))) t0 _ ht hk)
    · cases hn

theorem G_loop {f : ε → Option ρ} {enc : τ → St} {out : ε → St} {t0 : τ} (hs : Sub B s (enc t0)) (h1 : ∀ e, Imq (f e) A fun r => QP (Q r) .normal (out e))
    (h2 : ∀ r, A r → ∀ (R : St → Prop) t, Imq (step t) (fun y => match y with | .inl t' => ∀ s', Sub B s' (enc t') → R s' | .inr e => QP (Q r) .normal (out e)) fun _ => WP P C B x (thenA R (inBlockA k (Q r))) (enc t)) :
    Imq ((loopO step t0).bind f) A fun r => WP P C B (.block k (.loop x)) (Q r) s := G_loopX (fun e r => QP (Q r) .normal (out e)) hs h1 h2

end

theorem G_loopR {τ ε : Type} {step : τ → Option (τ ⊕ (ε ⊕ ρ))} {k : Nat} {f : ε → Option ρ} {enc : τ → St} {out : ε → St} {t0 : τ} (hs : Sub B s (enc t0)) (h1 : ∀ e, Imq (f e) A fun r => QP (Q r) .normal (out e))
    (h2 : ∀ r, A r → ∀ (R : St → Prop) t, Imq (step t) (fun y => match y with | .inl t' => ∀ s', Sub B s' (enc t') → R s' | .inr (.inl e) => QP (Q r) .normal (out e) | .inr (.inr r') => r' = r) fun _ => WP P C B x (thenA R (inBlockA k (Q r))) (enc t)) :
    Imq ((loopO step t0).bind (outE f)) A fun r => WP P C B (.block k (.loop x)) (Q r) s := by
  refine G_loopX (fun e r => match e with | .inl e => QP (Q r) .normal (out e) | .inr r' => r' = r) hs ?_ ?_
  · intro e
    cases e with
    | inl e => exact h1 e
    | inr r' => exact q_some fun _ => rfl
  · intro r hr R t y hy hh
    refine h2 r hr R t y hy ?_
    cases y with
    | inl t' => exact hh
    | inr e => cases e <;> exact hh

theorem G_loop0 (h : Imq o A fun r => RD P C B x (Q r) s) : Imq o A fun r => WP P C B (.loop x) (Q r) s := q_mono (fun _ => WP_loop) h
theorem G_round (h : Imq o A fun r => WP P C B x (thenA (RD P C B x (Q r)) (Q r)) s) : Imq o A fun r => RD P C B x (Q r) s := q_mono (fun _ h => RD_step (Sub.refl _) h) h
theorem G_subD (hs : Sub B s s0) (h : Imq o A fun r => RD P C B x (Q r) s0) : Imq o A fun r => RD P C B x (Q r) s := q_mono (fun _ => RD_sub hs) h
end
end Go.AI
