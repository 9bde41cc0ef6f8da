/- What a function comes to, beside the code that it is: the rules that go through both at once. -/
import Derived.Test.YtpolaeonmmolnaaALa
namespace Go.AI
set_option linter.unusedVariables false
set_option linter.unusedSimpArgs false

/-- What is shown of a run that may answer, where something is known of the answer. -/
def Imq {ρ : Type} (o : Option ρ) (A p : ρ → Prop) : Prop := ∀ r, o = some r → A r → p r

/-- A statement at an exit. -/
def QP (Q : Exit → St → Prop) (e : Exit) (s : St) : Prop := Q e s

section
variable {ρ α : Type} {o : Option ρ} {A p q : ρ → Prop}

theorem q_some {x : ρ} (h : A x → p x) : Imq (some x) A p := by
  intro r hr ha
  cases hr
  exact h ha
theorem q_none : Imq none A p := by
  intro r hr
  cases hr
theorem q_bind {x : Option α} {f : α → Option ρ} (h : ∀ v, x = some v → Imq (f v) A p) : Imq (x.bind f) A p := by
  intro r hr ha
  obtain ⟨v, h1, h2⟩ := Option.bind_eq_some_iff.1 hr
  exact h v h1 r h2 ha
theorem q_guard {c : Prop} [Decidable c] {a : Option ρ} (h1 : c → Imq a A p) : Imq (if c then a else none) A p := by
  split
  · exact h1 ‹_›
  · exact q_none
theorem q_mono (h : ∀ r, q r → p r) (h1 : Imq o A q) : Imq o A p := fun r hr ha => h r (h1 r hr ha)
/-- Two ways come together. -/
theorem q_join {x : Option α} {f : α → Option ρ} (W : α → ρ → Prop) (h1 : ∀ v, Imq (f v) A (W v)) (h2 : ∀ r, A r → Imq x (fun v => W v r) fun _ => p r) : Imq (x.bind f) A p := by
  intro r hr ha
  obtain ⟨v, h3, h4⟩ := Option.bind_eq_some_iff.1 hr
  exact h2 r ha v h3 (h1 v r h4 ha)
theorem q_bif {t : Bool} {a b : Option ρ} (h1 : t = true → Imq a A p) (h2 : t = false → Imq b A p) : Imq (bif t then a else b) A p := by
  cases t
  · exact h2 rfl
  · exact h1 rfl
end

section
variable {ρ : Type} {o : Option ρ} {A : ρ → Prop} {P : Program} {C : FuncId → Con} {B : Id → Prop} {K : ρ → St → Prop} {Q : ρ → Exit → St → Prop} {x y : ACode} {s s0 : St}

theorem G_seq (h : Imq o A fun r => WP P C B x (thenA (WP P C B y (Q r)) (Q r)) s) : Imq o A fun r => WP P C B (.seq x y) (Q r) s := q_mono (fun _ => WP_seq) h
theorem G_region {ops : List AIns} (h : Imq o A fun r => RP P C B ops (QP (Q r) .normal) s) : Imq o A fun r => WP P C B (.region ops) (Q r) s := q_mono (fun _ => WP_region) h
theorem G_nil (h : Imq o A fun r => K r s) : Imq o A fun r => RP P C B [] (K r) s := q_mono (fun _ => RP_nil) h
theorem G_skip (h : Imq o A fun r => QP (Q r) .normal s) : Imq o A fun r => WP P C B .skip (Q r) s := q_mono (fun _ => WP_skip) h
theorem G_block {id : Nat} (h : Imq o A fun r => WP P C B x (inBlockA id (Q r)) s) : Imq o A fun r => WP P C B (.block id x) (Q r) s := q_mono (fun _ => WP_block) h
theorem G_exit {id : Nat} (h : Imq o A fun r => QP (Q r) (.exit id) s) : Imq o A fun r => WP P C B (.exit id) (Q r) s := q_mono (fun _ => WP_exit) h
theorem G_ret (h : Imq o A fun r => QP (Q r) .ret s) : Imq o A fun r => WP P C B .ret (Q r) s := q_mono (fun _ => WP_ret) h
theorem G_subW (hs : Sub B s s0) (h : Imq o A fun r => WP P C B x (Q r) s0) : Imq o A fun r => WP P C B x (Q r) s := q_mono (fun _ => WP_sub hs) h
theorem G_subR {ops : List AIns} (hs : Sub B s s0) (h : Imq o A fun r => RP P C B ops (K r) s0) : Imq o A fun r => RP P C B ops (K r) s := q_mono (fun _ => RP_sub hs) h

/-! ### Exits -/
theorem G_then {N : ρ → St → Prop} (h : Imq o A fun r => N r s) : Imq o A fun r => QP (thenA (N r) (Q r)) .normal s := h
theorem G_thenX {N : ρ → St → Prop} {i : Nat} (h : Imq o A fun r => QP (Q r) (.exit i) s) : Imq o A fun r => QP (thenA (N r) (Q r)) (.exit i) s := h
theorem G_thenR {N : ρ → St → Prop} (h : Imq o A fun r => QP (Q r) .ret s) : Imq o A fun r => QP (thenA (N r) (Q r)) .ret s := h
theorem G_inB {i : Nat} (h : Imq o A fun r => QP (Q r) .normal s) : Imq o A fun r => QP (inBlockA i (Q r)) .normal s := h
theorem G_inBR {i : Nat} (h : Imq o A fun r => QP (Q r) .ret s) : Imq o A fun r => QP (inBlockA i (Q r)) .ret s := h
theorem G_inBX {i : Nat} (h : Imq o A fun r => QP (Q r) .normal s) : Imq o A fun r => QP (inBlockA i (Q r)) (.exit i) s := by
  refine q_mono (fun r h => ?_) h
  show (if i = i then _ else _)
  rw [if_pos rfl]
  exact h
theorem G_inBO {i j : Nat} (hij : Nat.beq j i = false) (h : Imq o A fun r => QP (Q r) (.exit j) s) : Imq o A fun r => QP (inBlockA i (Q r)) (.exit j) s := by
  refine q_mono (fun r h => ?_) h
  show (if j = i then _ else _)
  rw [if_neg (fun e => by subst e; rw [Nat.beq_refl] at hij; cases hij)]
  exact h
theorem G_retR (h : Imq o A fun r => K r s) : Imq o A fun r => QP (retQ (K r)) .ret s := h
theorem G_retN (h : Imq o A fun r => K r s) : Imq o A fun r => QP (retQ (K r)) .normal s := h

/-! ### Conditions, operations -/
theorem G_cond {a b : Option ρ} {k : Opd} {t : Bool} (ht : unw true (evE s.env k) = .val (.bool t)) (h1 : t = true → Imq a A fun r => WP P C B x (Q r) s) (h2 : t = false → Imq b A fun r => WP P C B y (Q r) s) :
    Imq (bif t then a else b) A fun r => WP P C B (.cond k x y) (Q r) s := by
  cases t with
  | true => exact q_mono (fun r h => WP_cond ht (fun _ => h) (fun e => by cases e)) (h1 rfl)
  | false => exact q_mono (fun r h => WP_cond ht (fun e => by cases e) (fun _ => h)) (h2 rfl)
/-- A condition that is known. -/
theorem G_condT {k : Opd} (ht : unw true (evE s.env k) = .val (.bool true)) (h1 : Imq o A fun r => WP P C B x (Q r) s) : Imq o A fun r => WP P C B (.cond k x y) (Q r) s :=
  q_mono (fun r h => WP_cond ht (fun _ => h) (fun e => by cases e)) h1
theorem G_condF {k : Opd} (ht : unw true (evE s.env k) = .val (.bool false)) (h1 : Imq o A fun r => WP P C B y (Q r) s) : Imq o A fun r => WP P C B (.cond k x y) (Q r) s :=
  q_mono (fun r h => WP_cond ht (fun e => by cases e) (fun _ => h)) h1

section
variable {d n : Nat} {op : AOp} {g : Option (Nat × Bool)} {l : List AIns} {e : List (Nat × AV)} {H H' : Hp}
theorem lt_of_ble (h : Nat.ble (d + 1) n = true) : d < n := Nat.le_of_ble_eq_true h
theorem G_op (id : Id) {v : AV} (h1 : semE C H (fun x => unw true (evE ⟨n, e⟩ x)) (fun t x => unw t (evE ⟨n, e⟩ x)) [] id op = some (v, H')) (hg : gv ⟨n, e⟩ g = some true) (hd : Nat.ble (d + 1) n = true)
    (h : Imq o A fun r => RP P C B l (K r) ⟨⟨n, (d, v) :: e⟩, H'⟩) : Imq o A fun r => RP P C B (⟨some d, op, g⟩ :: l) (K r) ⟨⟨n, e⟩, H⟩ := q_mono (fun _ => RP_op [] id hg (lt_of_ble hd) h1) h
theorem G_op0 (id : Id) {v : AV} (h1 : semE C H (fun x => unw true (evE ⟨n, e⟩ x)) (fun t x => unw t (evE ⟨n, e⟩ x)) [] id op = some (v, H')) (hg : gv ⟨n, e⟩ g = some true)
    (h : Imq o A fun r => RP P C B l (K r) ⟨⟨n, e⟩, H'⟩) : Imq o A fun r => RP P C B (⟨none, op, g⟩ :: l) (K r) ⟨⟨n, e⟩, H⟩ := q_mono (fun _ => RP_op0 [] id hg h1) h
theorem G_off (hg : gv ⟨n, e⟩ g = some false) (hd : Nat.ble (d + 1) n = true) (h : Imq o A fun r => RP P C B l (K r) ⟨⟨n, (d, .val (.tup [])) :: e⟩, H⟩) : Imq o A fun r => RP P C B (⟨some d, op, g⟩ :: l) (K r) ⟨⟨n, e⟩, H⟩ := q_mono (fun _ => RP_skip hg (lt_of_ble hd)) h
theorem G_off0 (hg : gv ⟨n, e⟩ g = some false) (h : Imq o A fun r => RP P C B l (K r) ⟨⟨n, e⟩, H⟩) : Imq o A fun r => RP P C B (⟨none, op, g⟩ :: l) (K r) ⟨⟨n, e⟩, H⟩ := q_mono (fun _ => RP_skip0 hg) h

/-- A temporary that has a truth value, once that is known. -/
theorem Sub_lit {b v : Bool} {t : Nat} (hl : look e t = .val (.bool b)) (hb : b = v) : Sub B ⟨⟨n, e⟩, H⟩ ⟨⟨n, (t, .val (.bool v)) :: e⟩, H⟩ := by
  subst hb
  intro J F w a hE hH
  refine ⟨J, F, ⟨hE.1, fun j u h1 => ?_, fun j hj => ?_⟩, hH, Ext0.refl _ _ _⟩
  · have := hE.2.1 j u h1
    simp only [look]
    split
    · rename_i hj
      subst hj
      rwa [hl] at this
    · exact this
  · have := hE.2.2 j hj
    simp only [look]
    split
    · rename_i hj
      subst hj
      simp only at this
      rw [hl] at this
      cases this
    · exact this
end

/-! ### What may be forgotten -/

/-- Another word for what a value is. -/
inductive Wk : AV → AV → Prop
  | refl (x : AV) : Wk x x
  | norm (d d' : DV) (h : d.norm = d') : Wk (.val d) (.val d')
  | agg (l : List AV) (ds : List DV) (h : datas l = some ds) : Wk (.agg l) (.val (.agg ds))
  | aggN (l : List AV) (ds ds' : List DV) (h : datas l = some ds) (h' : ds.map DV.norm1 = ds') : Wk (.agg l) (.val (.agg ds'))
  | junk (x : AV) : Wk x .junk

theorem Wk.rel {J : Id → JI} {F : Nat → Prop} {w : World} {x y : AV} {v : Value} (h : Wk x y) (hv : VRel J F w x v) : VRel J F w y v := by
  have agg : ∀ {l : List AV} {ds : List DV}, datas l = some ds → VRel J F w (.agg l) v → Rep F w (.agg ds) v := by
    intro l ds hd hv
    cases hv with
    | agg _ vs hl hr =>
      have := datas_rel hd ⟨hl, hr⟩
      exact .agg ds vs this.1 this.2
  cases h with
  | refl => exact hv
  | norm d d' h => subst h; exact .val _ _ hv.inv_val.norm
  | agg l ds h => exact .val _ _ (agg h hv)
  | aggN l ds ds' h h' => subst h'; exact .val _ _ (agg h hv).norm
  | junk => exact .junk v

def HasW (l : List (Nat × AV)) : List (Nat × AV) → Prop
  | [] => True
  | (t, x) :: m => Wk (look l t) x ∧ HasW l m

theorem Sub_env {n : Nat} {l m : List (Nat × AV)} {H : Hp} (h : HasW l m) : Sub B ⟨⟨n, l⟩, H⟩ ⟨⟨n, m⟩, H⟩ := by
  intro J F w a hE hH
  have key : ∀ t, Wk (look l t) (look m t) := by
    intro t
    induction m with
    | nil => exact .junk _
    | cons p m ih =>
      obtain ⟨u, x⟩ := p
      simp only [look]
      split
      · rename_i e
        subst e
        exact h.1
      · exact ih h.2
  refine ⟨J, F, ⟨hE.1, fun t v h1 => (key t).rel (hE.2.1 t v h1), fun t ht => ?_⟩, hH, Ext0.refl _ _ _⟩
  have h1 := key t
  have h2 := hE.2.2 t ht
  simp only at h2 ⊢
  rw [h2] at h1
  generalize look m t = z at h1
  cases h1 <;> rfl

end
end Go.AI
