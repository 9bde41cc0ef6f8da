/- Rules for runs of abstract states: what a piece of code comes to, and what may be forgotten on the way. -/
import Derived.Test.YtpolaeonmmolnaaAJc
namespace Go.AI
set_option linter.unusedVariables false
set_option linter.unusedSimpArgs false

/-- What is shown of a run that may answer. -/
def Imp {ρ : Type} (o : Option ρ) (p : ρ → Prop) : Prop := ∀ r, o = some r → p r

section
variable {ρ α : Type} {o : Option ρ} {p : ρ → Prop}

theorem imp_some {x : ρ} (h : p x) : Imp (some x) p := by
  intro r hr
  cases hr
  exact h
theorem imp_none : Imp none p := by
  intro r hr
  cases hr
theorem imp_bind {x : Option α} {f : α → Option ρ} (h : ∀ v, x = some v → Imp (f v) p) : Imp (x.bind f) p := by
  intro r hr
  obtain ⟨v, h1, h2⟩ := Option.bind_eq_some_iff.1 hr
  exact h v h1 r h2
theorem imp_if {c : Prop} [Decidable c] {a b : Option ρ} (h1 : c → Imp a p) (h2 : ¬ c → Imp b p) : Imp (if c then a else b) p := by
  split
  · exact h1 ‹_›
  · exact h2 ‹_›
theorem imp_guard {c : Prop} [Decidable c] {a : Option ρ} (h1 : c → Imp a p) : Imp (if c then a else none) p := imp_if h1 fun _ => imp_none
theorem imp_cond {t : Bool} {a b : Option ρ} (h1 : t = true → Imp a p) (h2 : t = false → Imp b p) : Imp (bif t then a else b) p := by
  cases t
  · exact h2 rfl
  · exact h1 rfl
/-- Two ways come together. -/
theorem imp_join {x : Option α} {f : α → Option ρ} (K : α → ρ → Prop) (h1 : ∀ v, Imp (f v) (K v)) (h2 : ∀ r, Imp x fun v => K v r → p r) : Imp (x.bind f) p := by
  intro r hr
  obtain ⟨v, h3, h4⟩ := Option.bind_eq_some_iff.1 hr
  exact h2 r v h3 (h1 v r h4)
/-- Two ways come together, each of which always comes to something. -/
theorem imp_bif {t : Bool} {a b : α} {f : α → Option ρ} (h : Imp (Option.bind (bif t then some a else some b) f) p) : Imp (f (bif t then a else b)) p := by
  cases t <;> exact h
theorem imp_let {a : α} {f : α → Option ρ} (h : Imp ((some a).bind f) p) : Imp (f a) p := h
end

section
variable (P : Program) (C : FuncId → Con) (B : Id → Prop)

/-- What a row of operations comes to. -/
def RP (ops : List AIns) (K : St → Prop) (s : St) : Prop :=
  ConOk P C → ∀ (opsA : Array Oper) (l : List Oper), cInss P opsA l = some ops → ∀ (J0 : Id → JI) (F0 : Nat → Prop) (w0 : World) (d0 : List Deferred) (a : Act) (w : World) (Q : Exit → Act → World → Prop), Stands B J0 F0 w0 d0 s a w →
    (∀ s' a' w', Stands B J0 F0 w0 d0 s' a' w' → K s' → Q .normal a' w') → wpList P opsA Q l a w

/-- What code comes to. -/
def WP (ac : ACode) (Q : Exit → St → Prop) (s : St) : Prop :=
  ConOk P C → ∀ (c : Code), compC P c = some ac → ∀ (J0 : Id → JI) (F0 : Nat → Prop) (w0 : World) (d0 : List Deferred) (a : Act) (w : World) (Q' : Exit → Act → World → Prop), Stands B J0 F0 w0 d0 s a w →
    (∀ e s' a' w', Stands B J0 F0 w0 d0 s' a' w' → Q e s' → Q' e a' w') → c.wp P Q' a w

/-- What the rounds of a loop come to. -/
def RD (ac : ACode) (Q : Exit → St → Prop) (s : St) : Prop :=
  ConOk P C → ∀ (c : Code), compC P c = some ac → ∀ (J0 : Id → JI) (F0 : Nat → Prop) (w0 : World) (d0 : List Deferred) (a : Act) (w : World) (Q' : Exit → Act → World → Prop), Stands B J0 F0 w0 d0 s a w →
    (∀ e s' a' w', Stands B J0 F0 w0 d0 s' a' w' → Q e s' → Q' e a' w') → Rounds P c Q' a w
end

section
variable {P : Program} {C : FuncId → Con} {ns : Id} {B : Id → Prop} {Q : Exit → St → Prop} {K : St → Prop} {s s0 : St} {x y : ACode} {J0 : Id → JI} {F0 : Nat → Prop} {w0 w : World} {d0 : List Deferred} {a : Act}

theorem Stands.sub (h : Stands B J0 F0 w0 d0 s a w) (hs : Sub B s s0) : Stands B J0 F0 w0 d0 s0 a w := by
  obtain ⟨J, F, hE, hH, hX, hd⟩ := h
  obtain ⟨J', F', h1, h2, h3⟩ := hs J F w a hE hH
  exact ⟨J', F', h1, h2, hX.trans h3, hd⟩

theorem RP_sub {ops : List AIns} (hs : Sub B s s0) (h : RP P C B ops K s0) : RP P C B ops K s :=
  fun hC opsA l hl J0 F0 w0 d0 a w Q hS hQ => h hC opsA l hl J0 F0 w0 d0 a w Q (hS.sub hs) hQ
theorem WP_sub (hs : Sub B s s0) (h : WP P C B x Q s0) : WP P C B x Q s :=
  fun hC c hc J0 F0 w0 d0 a w Q' hS hQ => h hC c hc J0 F0 w0 d0 a w Q' (hS.sub hs) hQ
theorem RD_sub (hs : Sub B s s0) (h : RD P C B x Q s0) : RD P C B x Q s :=
  fun hC c hc J0 F0 w0 d0 a w Q' hS hQ => h hC c hc J0 F0 w0 d0 a w Q' (hS.sub hs) hQ

theorem cInss_nil {opsA : Array Oper} {l : List Oper} (h : cInss P opsA l = some []) : l = [] := by
  cases l with
  | nil => rfl
  | cons o l =>
    simp only [cInss] at h
    split at h <;> cases h

theorem cInss_cons {opsA : Array Oper} {l : List Oper} {i : AIns} {m : List AIns} (h : cInss P opsA l = some (i :: m)) : ∃ o l', l = o :: l' ∧ cIns P opsA o = some i ∧ cInss P opsA l' = some m := by
  cases l with
  | nil => cases h
  | cons o l =>
    simp only [cInss] at h
    split at h
    · rename_i i' m' h1 h2
      cases h
      exact ⟨o, l, rfl, h1, h2⟩
    · cases h

theorem RP_nil (h : K s) : RP P C B [] K s := by
  intro hC opsA l hl J0 F0 w0 d0 a w Q hS hQ
  cases cInss_nil hl
  exact hQ s a w hS h

theorem Stands.moves {s' : St} {a' : Act} {w' : World} {J : Id → JI} {F : Nat → Prop} (hX : Ext0 B J0 F0 w0 J F w) (hd : a.defers = d0) (h : Moves J F w s' a a' w') : Stands B J0 F0 w0 d0 s' a' w' := by
  obtain ⟨J', F', h1, h2, h3, h4⟩ := h
  exact ⟨J', F', h1, h2, hX.trans h3.to0, h4.trans hd⟩

theorem RP_step {i : AIns} {l : List AIns} {s' : St} (h1 : step C ns s i = some s') (h : RP P C B l K s') : RP P C B (i :: l) K s := by
  intro hC opsA l0 hl J0 F0 w0 d0 a w Q hS hQ
  obtain ⟨o, l', rfl, hi, hm⟩ := cInss_cons hl
  obtain ⟨J, F, hE, hH, hX, hd⟩ := hS
  unfold wpList
  have next : ∀ a1 w1, Moves J F w s' a a1 w1 → wpList P opsA Q l' a1 w1 := fun a1 w1 hM => h hC opsA l' hm J0 F0 w0 d0 a1 w1 Q (Stands.moves hX hd hM) hQ
  rcases step_sound hC hi hE hH h1 with ⟨hw, h⟩ | ⟨hw, h⟩
  · rw [if_pos hw]
    exact .inl (Oper.wp_mono next (h Q))
  · rw [hw]
    exact next _ _ h

/-- An operation that is done. -/
theorem RP_op (ns id : Id) {d n : Nat} {op : AOp} {g : Option (Nat × Bool)} {l : List AIns} {e : List (Nat × AV)} {H H' : Hp} {x : AV} (hg : gv ⟨n, e⟩ g = some true) (hd : d < n)
    (h1 : semE C H (fun x => unw true (evE ⟨n, e⟩ x)) (fun t x => unw t (evE ⟨n, e⟩ x)) ns id op = some (x, H')) (h : RP P C B l K ⟨⟨n, (d, x) :: e⟩, H'⟩) : RP P C B (⟨some d, op, g⟩ :: l) K ⟨⟨n, e⟩, H⟩ := by
  intro hC opsA l0 hl J0 F0 w0 d0 a w Q hS hQ
  obtain ⟨o, l', rfl, hi, hm⟩ := cInss_cons hl
  obtain ⟨J, F, hE, hH, hX, hd0⟩ := hS
  obtain ⟨hop, hdst, _⟩ := cIns_op hi
  unfold wpList
  have hw := gv_rel hE hi hg
  rw [if_pos hw]
  refine .inl (Oper.wp_mono ?_ (op_sound hC hH (orel hE) (fun b hb => by subst hb; exact orel hE) hop h1 Q))
  rintro a' w' ⟨v, J', F', rfl, k1, k2, k3⟩
  refine h hC opsA l' hm J0 F0 w0 d0 _ w' Q ⟨J', F', ?_, k2, hX.trans k3.to0, ?_⟩ hQ
  · have := put_rel (hE.ext hH k3) k1 (some d)
    simp only [putE] at this
    rw [if_pos hd] at this
    rw [← hdst]
    exact this
  · rw [← hdst]; exact hd0

/-- An operation whose answer nobody asks for. -/
theorem RP_op0 (ns id : Id) {n : Nat} {op : AOp} {g : Option (Nat × Bool)} {l : List AIns} {e : List (Nat × AV)} {H H' : Hp} {x : AV} (hg : gv ⟨n, e⟩ g = some true)
    (h1 : semE C H (fun x => unw true (evE ⟨n, e⟩ x)) (fun t x => unw t (evE ⟨n, e⟩ x)) ns id op = some (x, H')) (h : RP P C B l K ⟨⟨n, e⟩, H'⟩) : RP P C B (⟨none, op, g⟩ :: l) K ⟨⟨n, e⟩, H⟩ := by
  intro hC opsA l0 hl J0 F0 w0 d0 a w Q hS hQ
  obtain ⟨o, l', rfl, hi, hm⟩ := cInss_cons hl
  obtain ⟨J, F, hE, hH, hX, hd0⟩ := hS
  obtain ⟨hop, hdst, _⟩ := cIns_op hi
  unfold wpList
  have hw := gv_rel hE hi hg
  rw [if_pos hw]
  refine .inl (Oper.wp_mono ?_ (op_sound hC hH (orel hE) (fun b hb => by subst hb; exact orel hE) hop h1 Q))
  rintro a' w' ⟨v, J', F', rfl, k1, k2, k3⟩
  refine h hC opsA l' hm J0 F0 w0 d0 _ w' Q ⟨J', F', ?_, k2, hX.trans k3.to0, ?_⟩ hQ
  · rw [← hdst]; exact hE.ext hH k3
  · rw [← hdst]; exact hd0

/-- An operation that is passed by. -/
theorem RP_skip {d n : Nat} {op : AOp} {g : Option (Nat × Bool)} {l : List AIns} {e : List (Nat × AV)} {H : Hp} (hg : gv ⟨n, e⟩ g = some false) (hd : d < n)
    (h : RP P C B l K ⟨⟨n, (d, .val (.tup [])) :: e⟩, H⟩) : RP P C B (⟨some d, op, g⟩ :: l) K ⟨⟨n, e⟩, H⟩ := by
  intro hC opsA l0 hl J0 F0 w0 d0 a w Q hS hQ
  obtain ⟨o, l', rfl, hi, hm⟩ := cInss_cons hl
  obtain ⟨J, F, hE, hH, hX, hd0⟩ := hS
  obtain ⟨hop, hdst, _⟩ := cIns_op hi
  unfold wpList
  have hw := gv_rel hE hi hg
  rw [hw]
  refine h hC opsA l' hm J0 F0 w0 d0 _ w Q ⟨J, F, ?_, hH, hX, ?_⟩ hQ
  · have := put_rel hE (undef_rel (J := J) (F := F) (w := w)) (some d)
    simp only [putE] at this
    rw [if_pos hd] at this
    rw [← hdst]
    exact this
  · rw [← hdst]; exact hd0
theorem RP_skip0 {n : Nat} {op : AOp} {g : Option (Nat × Bool)} {l : List AIns} {e : List (Nat × AV)} {H : Hp} (hg : gv ⟨n, e⟩ g = some false)
    (h : RP P C B l K ⟨⟨n, e⟩, H⟩) : RP P C B (⟨none, op, g⟩ :: l) K ⟨⟨n, e⟩, H⟩ := by
  intro hC opsA l0 hl J0 F0 w0 d0 a w Q hS hQ
  obtain ⟨o, l', rfl, hi, hm⟩ := cInss_cons hl
  obtain ⟨J, F, hE, hH, hX, hd0⟩ := hS
  obtain ⟨hop, hdst, _⟩ := cIns_op hi
  unfold wpList
  have hw := gv_rel hE hi hg
  rw [hw]
  refine h hC opsA l' hm J0 F0 w0 d0 _ w Q ⟨J, F, ?_, hH, hX, ?_⟩ hQ
  · rw [← hdst]; exact hE
  · rw [← hdst]; exact hd0

/-! ### Code -/

theorem compC_inv : ∀ {c : Code} {ac : ACode}, compC P c = some ac → match ac with
    | .skip => c = .skip
    | .region ops => ∃ id opsA, c = .region id opsA false ∧ cInss P opsA opsA.toList = some ops
    | .draw _ => True
    | .drawA .. => True
    | .seq x y => ∃ cx cy, c = .seq cx cy ∧ compC P cx = some x ∧ compC P cy = some y
    | .cond k x y => ∃ o cx cy, c = .cond o cx cy ∧ cOpd o = some k ∧ compC P cx = some x ∧ compC P cy = some y
    | .block id x => ∃ cx, c = .block id cx ∧ compC P cx = some x
    | .loop x => ∃ cx, c = .loop cx ∧ compC P cx = some x
    | .exit id => c = .exit id
    | .ret => c = .ret := by
  intro c ac h
  cases c <;> simp only [compC, reduceCtorEq] at h
  case skip => cases h; rfl
  case region id ops draw =>
    split at h
    · rename_i m hm; cases h; exact ⟨id, ops, rfl, hm⟩
    · split at h
      · split at h
        · cases h; trivial
        · split at h
          · cases h; trivial
          · cases h
      · cases h
    · cases h
  case seq cx cy =>
    split at h
    · rename_i h1 h2; cases h; exact ⟨cx, cy, rfl, h1, h2⟩
    · cases h
  case cond o cx cy =>
    split at h
    · rename_i h1 h2 h3; cases h; exact ⟨o, cx, cy, rfl, h1, h2, h3⟩
    · cases h
  case block id cx =>
    obtain ⟨x, h1, rfl⟩ := Option.map_eq_some_iff.1 h
    exact ⟨cx, rfl, h1⟩
  case loop cx =>
    obtain ⟨x, h1, rfl⟩ := Option.map_eq_some_iff.1 h
    exact ⟨cx, rfl, h1⟩
  case exit id => cases h; rfl
  case ret => cases h; rfl

theorem WP_skip (h : Q .normal s) : WP P C B .skip Q s := by
  intro hC c hc J0 F0 w0 d0 a w Q' hS hQ
  cases compC_inv hc
  exact wp_skip (hQ _ _ _ _ hS h)

theorem WP_region {ops : List AIns} (h : RP P C B ops (Q .normal) s) : WP P C B (.region ops) Q s := by
  intro hC c hc J0 F0 w0 d0 a w Q' hS hQ
  obtain ⟨id, opsA, rfl, hm⟩ := compC_inv hc
  exact wp_region_list (h hC opsA opsA.toList hm J0 F0 w0 d0 a w Q' hS fun s' a' w' hS' hq => hQ _ s' a' w' hS' hq)

theorem WP_seq (h : WP P C B x (thenA (WP P C B y Q) Q) s) : WP P C B (.seq x y) Q s := by
  intro hC c hc J0 F0 w0 d0 a w Q' hS hQ
  obtain ⟨cx, cy, rfl, h1, h2⟩ := compC_inv hc
  refine wp_seq (h hC cx h1 J0 F0 w0 d0 a w _ hS ?_)
  intro e s' a' w' hS' hq
  cases e <;> try exact hQ _ s' a' w' hS' hq
  exact hq hC cy h2 J0 F0 w0 d0 a' w' Q' hS' hQ

theorem WP_cond {k : Opd} {t : Bool} (ht : unw true (evE s.env k) = .val (.bool t)) (h1 : t = true → WP P C B x Q s) (h2 : t = false → WP P C B y Q s) : WP P C B (.cond k x y) Q s := by
  intro hC c hc J0 F0 w0 d0 a w Q' hS hQ
  obtain ⟨o, cx, cy, rfl, ho, hx, hy⟩ := compC_inv hc
  have hS0 := hS
  obtain ⟨J, F, hE, hH, hX, hd⟩ := hS
  have hv := (orel hE).ev ho
  simp only [ht] at hv
  refine wp_cond hv.bool ?_
  cases t with
  | true => exact h1 rfl hC cx hx J0 F0 w0 d0 a w Q' hS0 hQ
  | false => exact h2 rfl hC cy hy J0 F0 w0 d0 a w Q' hS0 hQ

theorem WP_block {id : Nat} (h : WP P C B x (inBlockA id Q) s) : WP P C B (.block id x) Q s := by
  intro hC c hc J0 F0 w0 d0 a w Q' hS hQ
  obtain ⟨cx, rfl, h1⟩ := compC_inv hc
  refine wp_block (h hC cx h1 J0 F0 w0 d0 a w _ hS ?_)
  intro e s' a' w' hS' h
  cases e <;> try exact hQ _ s' a' w' hS' h
  rename_i id'
  simp only [inBlockA] at h
  simp only [Exit.inBlock]
  split at h
  · rename_i e; rw [if_pos e]; exact hQ _ s' a' w' hS' h
  · rename_i e; rw [if_neg e]; exact hQ _ s' a' w' hS' h

theorem WP_exit {id : Nat} (h : Q (.exit id) s) : WP P C B (.exit id) Q s := by
  intro hC c hc J0 F0 w0 d0 a w Q' hS hQ
  cases compC_inv hc
  exact wp_exit (hQ _ _ _ _ hS h)

theorem WP_ret (h : Q .ret s) : WP P C B .ret Q s := by
  intro hC c hc J0 F0 w0 d0 a w Q' hS hQ
  cases compC_inv hc
  exact wp_ret (hQ _ _ _ _ hS h)

theorem RD_step (hs : Sub B s s0) (h : WP P C B x (thenA (RD P C B x Q) Q) s0) : RD P C B x Q s := by
  intro hC c hc J0 F0 w0 d0 a w Q' hS hQ
  refine rounds_step (h hC c hc J0 F0 w0 d0 a w _ (hS.sub hs) ?_)
  intro e s' a' w' hS' hq
  cases e <;> try exact hQ _ s' a' w' hS' hq
  exact hq hC c hc J0 F0 w0 d0 a' w' Q' hS' hQ

theorem WP_loop (h : RD P C B x Q s) : WP P C B (.loop x) Q s := by
  intro hC c hc J0 F0 w0 d0 a w Q' hS hQ
  obtain ⟨cx, rfl, h1⟩ := compC_inv hc
  exact wp_rounds (h hC cx h1 J0 F0 w0 d0 a w Q' hS hQ)

/-- What is shown by running predicates. -/
theorem WP_of_wpA (h : wpA C ns B x Q s) : WP P C B x Q s := by
  intro hC c hc J0 F0 w0 d0 a w Q' hS hQ
  exact wpA_sound hC c x hc Q Q' s a w hS h hQ

/-- A region whose order is drawn. -/
theorem WP_draw {ops : List AIns} (h : runQ (flatC C) ns ops (fun s' => ∃ l, Has s'.env.l l ∧ Q .normal ⟨⟨s'.env.n, l⟩, s'.H⟩) s) : WP P C B (.draw ops) Q s := WP_of_wpA (wpA_draw.2 h)

/-! ### Loops -/

end

section
variable {τ ε : Type}
def iterO (f : τ → Option (τ ⊕ ε)) : Nat → τ → Option ε
  | 0, _ => none
  | n + 1, t => match f t with
    | some (.inl t') => iterO f n t'
    | some (.inr e) => some e
    | none => none

theorem iterO_mono {f : τ → Option (τ ⊕ ε)} : ∀ {n m : Nat} {t : τ} {e : ε}, iterO f n t = some e → n ≤ m → iterO f m t = some e
  | 0, _, _, _, h, _ => by cases h
  | n + 1, 0, _, _, _, hm => by omega
  | n + 1, m + 1, t, e, h, hm => by
    unfold iterO at h ⊢
    split at h
    · exact iterO_mono h (by omega)
    · exact h
    · cases h

open Classical in
/-- A loop: round after round, until one comes out. -/
noncomputable def loopO (f : τ → Option (τ ⊕ ε)) (t : τ) : Option ε :=
  if h : ∃ n e, iterO f n t = some e then some (Classical.choose (Classical.choose_spec h)) else none

theorem loopO_iff {f : τ → Option (τ ⊕ ε)} {t : τ} {e : ε} : loopO f t = some e ↔ ∃ n, iterO f n t = some e := by
  unfold loopO
  constructor
  · intro h
    split at h
    · rename_i hh
      cases h
      exact ⟨_, Classical.choose_spec (Classical.choose_spec hh)⟩
    · cases h
  · rintro ⟨n, hn⟩
    have hh : ∃ n e, iterO f n t = some e := ⟨n, e, hn⟩
    rw [dif_pos hh]
    have h1 := Classical.choose_spec (Classical.choose_spec hh)
    have h2 := iterO_mono h1 (Nat.le_max_left _ n)
    have h3 := iterO_mono hn (Nat.le_max_right (Classical.choose hh) n)
    rw [h2] at h3
    exact h3

/-- One round, and the loop again. -/
theorem loopO_eq (f : τ → Option (τ ⊕ ε)) (t : τ) : loopO f t = (f t).bind (Sum.elim (loopO f) some) := by
  apply Option.ext
  intro e
  rw [loopO_iff, Option.bind_eq_some_iff]
  constructor
  · rintro ⟨n, hn⟩
    cases n with
    | zero => cases hn
    | succ n =>
      unfold iterO at hn
      split at hn
      · rename_i t' h
        exact ⟨_, h, loopO_iff.2 ⟨n, hn⟩⟩
      · rename_i h
        cases hn
        exact ⟨_, h, rfl⟩
      · cases hn
  · rintro ⟨x, h, hx⟩
    cases x with
    | inl t' =>
      obtain ⟨n, hn⟩ := loopO_iff.1 hx
      refine ⟨n + 1, ?_⟩
      unfold iterO
      rw [h]
      exact hn
    | inr e' =>
      cases hx
      refine ⟨1, ?_⟩
      unfold iterO
      rw [h]

theorem loopO_next {f : τ → Option (τ ⊕ ε)} {t t' : τ} (h : f t = some (.inl t')) : loopO f t = loopO f t' := by rw [loopO_eq, h]; rfl
theorem loopO_out {f : τ → Option (τ ⊕ ε)} {t : τ} {e : ε} (h : f t = some (.inr e)) : loopO f t = some e := by rw [loopO_eq, h]; rfl

/-- What a loop comes to, by what goes down. -/
theorem loopO_ind {f : τ → Option (τ ⊕ ε)} (I : τ → Prop) (m : τ → Nat) (E : τ → ε → Prop) (h : ∀ t, I t → (∃ t', f t = some (.inl t') ∧ I t' ∧ m t' < m t ∧ ∀ e, E t' e → E t e) ∨ ∃ e, f t = some (.inr e) ∧ E t e) {t : τ} (h0 : I t) : ∃ e, loopO f t = some e ∧ E t e := by
  suffices key : ∀ n t, m t = n → I t → ∃ e, loopO f t = some e ∧ E t e from key _ t rfl h0
  intro n
  induction n using Nat.strongRecOn with
  | ind n ih =>
    rintro t rfl hI
    rcases h t hI with ⟨t', h1, h2, h3, h4⟩ | ⟨e, h1, h2⟩
    · obtain ⟨e, h5, h6⟩ := ih _ h3 t' rfl h2
      exact ⟨e, by rw [loopO_next h1]; exact h5, h4 e h6⟩
    · exact ⟨e, loopO_out h1, h2⟩

variable {P : Program} {C : FuncId → Con} {ns : Id} {B : Id → Prop} {Q : Exit → St → Prop} {x : ACode}

/-- **A loop.** -/
theorem imp_loop {f : τ → Option (τ ⊕ ε)} (enc : τ → St) (Kx : ε → Prop)
    (h : ∀ (R : St → Prop) t, Imp (f t) fun y => (match y with | .inl t' => ∀ s', Sub B s' (enc t') → R s' | .inr e => Kx e) → WP P C B x (thenA R Q) (enc t))
    {t0 : τ} {s : St} (hs : Sub B s (enc t0)) : Imp (loopO f t0) fun e => Kx e → WP P C B (.loop x) Q s := by
  intro e he hk
  obtain ⟨n, hn⟩ := loopO_iff.1 he
  refine WP_loop ?_
  induction n generalizing t0 s with
  | zero => cases hn
  | succ n ih =>
    unfold iterO at hn
    split at hn
    · rename_i t' ht
      exact RD_step hs (h (RD P C B x Q) t0 _ ht fun s' hs' => ih hs' (loopO_iff.2 ⟨n, hn⟩) hn)
    · rename_i e' ht
      cases hn
      exact RD_step hs (h (RD P C B x Q) t0 _ ht hk)
    · cases hn

end
end Go.AI
