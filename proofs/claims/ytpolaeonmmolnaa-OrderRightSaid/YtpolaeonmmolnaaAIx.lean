/- Code: what an abstract state is run to. -/
import Derived.Test.YtpolaeonmmolnaaAKf
namespace Go.AI
set_option linter.unusedVariables false
set_option linter.unusedSimpArgs false

/-- From one moment to a later one, for the names of a base alone. -/
structure Ext0 (B : Id → Prop) (J : Id → JI) (F : Nat → Prop) (w : World) (J' : Id → JI) (F' : Nat → Prop) (w' : World) : Prop where
  le : ∀ id, B id → (J id).le (J' id)
  fle : ∀ g, F g → F' g
  fnew : ∀ g, F' g → F g ∨ Own J g ∨ w.heap.size ≤ g
  onew : ∀ g, Own J' g → Own J g ∨ w.heap.size ≤ g
  heap : ∀ g, g < w.heap.size → ¬ Own J g → w'.heap[g]? = w.heap[g]?
  size : w.heap.size ≤ w'.heap.size
  os : w'.os = w.os
  tape : w'.tape = w.tape
  output : w'.output = w.output

/-- The names that a heap has. -/
def inHp (H : Hp) : Id → Prop := fun id => H id ≠ none

/-- One abstract state says no more than another. -/
def Sub (B : Id → Prop) (s s' : St) : Prop := ∀ (J : Id → JI) (F : Nat → Prop) (w : World) (a : Act), ERel J F w s.env a.tmps → HRel J F w s.H →
  ∃ J' F', ERel J' F' w s'.env a.tmps ∧ HRel J' F' w s'.H ∧ Ext0 B J F w J' F' w

def thenA (next : St → Prop) (Q : Exit → St → Prop) : Exit → St → Prop
  | .normal, s => next s
  | e, s => Q e s

def inBlockA (id : Nat) (Q : Exit → St → Prop) : Exit → St → Prop
  | .exit id', s => if id' = id then Q .normal s else Q (.exit id') s
  | e, s => Q e s

/-- Is it what the temporaries have? -/
def Has (l : List (Nat × AV)) : List (Nat × AV) → Prop
  | [] => True
  | (t, x) :: m => look l t = x ∧ Has l m

theorem Has.get {l : List (Nat × AV)} : ∀ {m : List (Nat × AV)}, Has l m → ∀ p ∈ m, look l p.1 = p.2
  | [], _, p, hp => by cases hp
  | (t, x) :: m, h, p, hp => by
    rcases List.mem_cons.1 hp with rfl | hp
    · exact h.1
    · exact Has.get h.2 p hp

def wpA (C : FuncId → Con) (ns : Id) (B : Id → Prop) : ACode → (Exit → St → Prop) → St → Prop
  | .skip, Q, s => Q .normal s
  | .region ops, Q, s => ∃ s', run C ns ops s = some s' ∧ Q .normal s'
  | .draw ops, Q, s => ∃ s' l, run (flatC C) ns ops s = some s' ∧ Has s'.env.l l ∧ Q .normal ⟨⟨s'.env.n, l⟩, s'.H⟩
  | .drawA ops L needs, Q, s => ∃ ids : Nat → Id, invT ids s L ∧ (∀ p ∈ needs, ids p.1 ≠ ids p.2) ∧ ∃ s' l, run (flatC C) ns ops s = some s' ∧ Has s'.env.l l ∧ Q .normal ⟨⟨s'.env.n, l⟩, s'.H⟩
  | .seq x y, Q, s => wpA C ns B x (thenA (wpA C ns B y Q) Q) s
  | .cond c x y, Q, s => ∃ t, unw true (evE s.env c) = .val (.bool t) ∧ (t = true → wpA C ns B x Q s) ∧ (t = false → wpA C ns B y Q s)
  | .block id x, Q, s => wpA C ns B x (inBlockA id Q) s
  | .loop x, Q, s => ∀ R : St → Prop, (∀ s s0, Sub B s s0 → wpA C ns B x (thenA R Q) s0 → R s) → R s
  | .exit id, Q, s => Q (.exit id) s
  | .ret, Q, s => Q .ret s

def compC (P : Program) : Code → Option ACode
  | .skip => some .skip
  | .region _ ops draw => match draw, cInss P ops ops.toList with
    | false, some m => some (.region m)
    | true, some m => if P.follows .mixedOrders = true then (if drawOk ops m = true then some (.draw m) else if drawOkA ops m (classes m []) (needsOf (classes m []) m) = true then some (.drawA m (classes m []) (needsOf (classes m []) m)) else none) else none
    | _, none => none
  | .seq x y => match compC P x, compC P y with
    | some x', some y' => some (.seq x' y')
    | _, _ => none
  | .cond c x y => match cOpd c, compC P x, compC P y with
    | some c', some x', some y' => some (.cond c' x' y')
    | _, _, _ => none
  | .block id x => (compC P x).map (.block id)
  | .loop x => (compC P x).map .loop
  | .exit id => some (.exit id)
  | .ret => some .ret
  | _ => none

section
variable {P : Program} {J J0 : Id → JI} {F F0 : Nat → Prop} {w w0 : World} {H : Hp} {a : Act} {C : FuncId → Con} {B : Id → Prop}

theorem Ext.to0 {J' : Id → JI} {F' : Nat → Prop} {w' : World} (h : Ext J F w J' F' w') : Ext0 B J F w J' F' w' := ⟨fun id _ => h.le id, h.fle, h.fnew, h.onew, h.heap, h.size, h.os, h.tape, h.output⟩

theorem Ext0.trans {J' J'' : Id → JI} {F' F'' : Nat → Prop} {w' w'' : World} (h : Ext0 B J F w J' F' w') (h' : Ext0 B J' F' w' J'' F'' w'') : Ext0 B J F w J'' F'' w'' where
  le id hb := JI.le_trans (h.le id hb) (h'.le id hb)
  fle g hg := h'.fle g (h.fle g hg)
  fnew g hg := by
    rcases h'.fnew g hg with h1 | h1 | h1
    · exact h.fnew g h1
    · rcases h.onew g h1 with h2 | h2
      · exact .inr (.inl h2)
      · exact .inr (.inr h2)
    · exact .inr (.inr (Nat.le_trans h.size h1))
  onew g hg := by
    rcases h'.onew g hg with h1 | h1
    · exact h.onew g h1
    · exact .inr (Nat.le_trans h.size h1)
  heap g hg ho := by
    rw [h'.heap g (Nat.lt_of_lt_of_le hg h.size) (fun h1 => by
      rcases h.onew g h1 with h2 | h2
      · exact ho h2
      · omega), h.heap g hg ho]
  size := Nat.le_trans h.size h'.size
  os := h'.os.trans h.os
  tape := h'.tape.trans h.tape
  output := h'.output.trans h.output

theorem Ext0.refl (J : Id → JI) (F : Nat → Prop) (w : World) : Ext0 B J F w J F w := (Ext.refl J F w).to0

/-- A frame in a world is as an abstract state says, and came there from a moment before. -/
def Stands (B : Id → Prop) (J0 : Id → JI) (F0 : Nat → Prop) (w0 : World) (d0 : List Deferred) (s : St) (a : Act) (w : World) : Prop :=
  ∃ J F, ERel J F w s.env a.tmps ∧ HRel J F w s.H ∧ Ext0 B J0 F0 w0 J F w ∧ a.defers = d0

/-- A loop comes to an end, from where a round begins. -/
def Rounds (P : Program) (c : Code) (Q : Exit → Act → World → Prop) (a : Act) (w : World) : Prop :=
  ∀ (b : Frame) (k : List Item) (cs : List Go.Frame), ∃ e a' w', Q e a' w' ∧ Arrives P (lone (b.at a (.code c :: .inLoop c :: k)) cs w) b k cs e a' w'

theorem rounds_step {c : Code} {Q : Exit → Act → World → Prop} (h : c.wp P (Exit.then (Rounds P c Q) Q) a w) : Rounds P c Q a w := by
  intro b k cs
  obtain ⟨e, a₁, w₁, hq, harr⟩ := h b (.inLoop c :: k) cs
  cases e with
  | normal =>
    obtain ⟨e₂, a₂, w₂, hq₂, harr₂⟩ := hq b k cs
    exact ⟨e₂, a₂, w₂, hq₂, .of_steps (Steps.trans harr (.one step_inLoop)) harr₂⟩
  | exit id => exact ⟨_, a₁, w₁, hq, .pass (x := .inLoop c) rfl (fun _ _ => .inl (by simp)) harr⟩
  | goto l => exact ⟨_, a₁, w₁, hq, .pass (x := .inLoop c) rfl (fun _ _ => .inl (by simp)) harr⟩
  | ret => exact ⟨_, a₁, w₁, hq, .pass (x := .inLoop c) rfl (fun _ _ => .inl (by simp)) harr⟩
  | panic ch => exact ⟨_, a₁, w₁, hq, .pass (x := .inLoop c) rfl (fun _ _ => .inl (by simp)) harr⟩
  | outgrown => exact ⟨_, a₁, w₁, hq, .pass (x := .inLoop c) rfl (fun _ _ => .inl (by simp)) harr⟩

theorem wp_rounds {c : Code} {Q : Exit → Act → World → Prop} (h : Rounds P c Q a w) : (Code.loop c).wp P Q a w := by
  intro b k cs
  obtain ⟨e, a', w', hq, harr⟩ := h b k cs
  exact ⟨e, a', w', hq, .of_steps (.one step_loop) harr⟩

/-- Forget what temporaries have. -/
theorem Sub.env {s : St} {l : List (Nat × AV)} (h : ∀ p ∈ l, look s.env.l p.1 = p.2) : Sub B s ⟨⟨s.env.n, l⟩, s.H⟩ := by
  intro J F w a hE hH
  have key : ∀ t, look l t = look s.env.l t ∨ look l t = .junk := by
    intro t
    induction l with
    | nil => exact .inr rfl
    | cons p l ih =>
      simp only [look]
      split
      · rename_i e
        subst e
        exact .inl (h p (by simp)).symm
      · exact ih (fun q hq => h q (by simp [hq]))
  refine ⟨J, F, ⟨hE.1, fun t v h1 => ?_, fun t ht => ?_⟩, hH, Ext0.refl _ _ _⟩
  · rcases key t with h2 | h2
    · simp only [h2]; exact hE.2.1 t v h1
    · simp only [h2]; exact .junk _
  · rcases key t with h2 | h2
    · simp only [h2]; exact hE.2.2 t ht
    · exact h2

theorem left_all {ops : Array Oper} {m : List AIns} (hm : cInss P ops ops.toList = some m) : left m (Array.replicate ops.size false) (List.range m.length) = m := by
  have hlen : m.length = ops.size := by have := (cInss_get hm).1; simpa using this
  have hall : left m (Array.replicate ops.size false) (List.range m.length) = (List.range m.length).filterMap fun j => m[j]? := by
    unfold left
    have key : ∀ l : List Nat, (∀ j ∈ l, j < ops.size) → (l.filterMap fun j => if (Array.replicate ops.size false).getD j true = true then none else m[j]?) = l.filterMap fun j => m[j]? := by
      intro l
      induction l with
      | nil => intro _; rfl
      | cons j l ih =>
        intro hj
        have h1 := hj j (by simp)
        simp only [List.filterMap_cons]
        rw [if_neg (by simp [Array.getD, h1]), ih (fun k hk => hj k (by simp [hk]))]
    exact key _ (fun j hj => by rw [← hlen]; simpa using hj)
  rw [hall]
  clear hall hlen
  have key2 : ∀ (m : List AIns) (p : List AIns), (List.range' p.length m.length).filterMap (fun j => (p ++ m)[j]?) = m := by
    intro m
    induction m with
    | nil => intro p; rfl
    | cons x m ih =>
      intro p
      simp only [List.length_cons, List.range'_succ, List.filterMap_cons]
      have : (p ++ x :: m)[p.length]? = some x := by simp
      rw [this]
      simp only
      have := ih (p ++ [x])
      simp only [List.length_append, List.length_cons, List.length_nil, List.append_assoc, List.cons_append, List.nil_append] at this
      rw [this]
  have := key2 m []
  simpa [List.range_eq_range'] using this

/-- **Code.** -/
theorem wpA_sound (hC : ConOk P C) {ns : Id} {d0 : List Deferred} : ∀ (c : Code) (ac : ACode), compC P c = some ac → ∀ (Qa : Exit → St → Prop) (Q : Exit → Act → World → Prop) (s : St) (a : Act) (w : World), Stands B J0 F0 w0 d0 s a w → wpA C ns B ac Qa s →
    (∀ e s' a' w', Stands B J0 F0 w0 d0 s' a' w' → Qa e s' → Q e a' w') → c.wp P Q a w := by
  intro c
  induction c with
  | skip =>
    intro ac hc Qa Q s a w hS hw hQ
    cases hc
    exact wp_skip (hQ _ _ _ _ hS hw)
  | region id ops draw =>
    intro ac hc Qa Q s a w hS hw hQ
    simp only [compC] at hc
    split at hc
    · rename_i m hm
      cases hc
      obtain ⟨s', hs', hq⟩ := hw
      obtain ⟨J, F, hE, hH, hX, hd⟩ := hS
      refine wp_region_list (run_sound hC ops.toList m J F w a s s' hm hE hH hs' ?_)
      rintro a' w' ⟨J', F', h1, h2, h3, h4⟩
      exact hQ _ _ _ _ ⟨J', F', h1, h2, hX.trans h3.to0, h4.trans hd⟩ hq
    · rename_i m hm
      have hl : left m (Array.replicate ops.size false) (List.range m.length) = m := left_all hm
      split at hc
      · rename_i hmix
        split at hc
        · rename_i hok
          cases hc
          obtain ⟨s', l, hs', hhas, hq⟩ := hw
          obtain ⟨J, F, hE, hH, hX, hd⟩ := hS
          have hH1 : HRel J F { w with drawn := w.drawn + 1 } s.H := hH.drew
          have hE1 : ERel J F { w with drawn := w.drawn + 1 } s.env a.tmps := hE.ext hH (ext_drew J F w)
          refine wp_region_any hmix (draw_sound (ns := ns) (flatC_ok hC) hm (fun _ => True) (fun _ _ _ _ _ _ => trivial) (fun {i o} => ok_edge hm (f := fun _ i => (List.range i).all fun k => ((masks ops.toList []).getD i 0).testBit k || (match m[k]?, m[i]? with
            | some x, some y => commB x y
            | _, _ => false)) hok (i := i) (o := o)) (fun hki hy hx => (drawOk_pair hm hok hki hy hx).imp (fun h => h) Comm.of_commB) ops.size _ J F _ a s s' s' (by simp) ?_ ?_ trivial hE1 hH1 (by rw [hl]; exact hs') (.refl _) ?_)
          · intro i o ho hi e he hb
            have : i < ops.size := (Array.getElem?_eq_some_iff.1 ho).1
            simp [Array.getD, this] at hi
          · rw [hl]
            have := (cInss_get hm).1
            simp at this
            omega
          · rintro a' w' s'' heq ⟨J', F', h1, h2, h3, h4⟩
            obtain ⟨J2, F2, k1, k2, k3⟩ := Sub.env (B := B) (s := s'') (l := l) (fun p hp => by rw [heq.look]; exact hhas.get p hp) J' F' w' a' h1 h2
            rw [← heq.n, ← heq.H] at hq
            exact hQ _ _ a' w' ⟨J2, F2, k1, k2, (hX.trans ((ext_drew J F w).trans h3).to0).trans k3, h4.trans hd⟩ hq
        · split at hc
          · rename_i hok
            cases hc
            obtain ⟨ids, hI, hn, s', l, hs', hhas, hq⟩ := hw
            obtain ⟨J, F, hE, hH, hX, hd⟩ := hS
            have hH1 : HRel J F { w with drawn := w.drawn + 1 } s.H := hH.drew
            have hE1 : ERel J F { w with drawn := w.drawn + 1 } s.env a.tmps := hE.ext hH (ext_drew J F w)
            have hok2 := hok
            unfold drawOkA at hok2
            rw [Bool.and_eq_true] at hok2
            refine wp_region_any hmix (draw_sound (ns := ns) (flatC_ok hC) hm (InvA (classes m []) ids) (fun i hi s s' h1 h2 => InvA.step (List.all_eq_true.1 hok2.1 i hi) h1 h2) (fun {i o} => ok_edge hm (f := fun _ i => (List.range i).all fun k => ((masks ops.toList []).getD i 0).testBit k || (match m[k]?, m[i]? with
              | some x, some y => commB x y || commA (classes m []) (needsOf (classes m []) m) x y
              | _, _ => false)) hok2.2 (i := i) (o := o)) (fun hki hy hx => (drawOk_pair hm (g := fun x y => commB x y || commA (classes m []) (needsOf (classes m []) m) x y) hok2.2 hki hy hx).imp (fun h => h) (fun h => by
                rw [Bool.or_eq_true] at h
                exact h.elim Comm.of_commB (Comm.of_commA hn))) ops.size _ J F _ a s s' s' (by simp) ?_ ?_ (invT_inv hI) hE1 hH1 (by rw [hl]; exact hs') (.refl _) ?_)
            · intro i o ho hi e he hb
              have : i < ops.size := (Array.getElem?_eq_some_iff.1 ho).1
              simp [Array.getD, this] at hi
            · rw [hl]
              have := (cInss_get hm).1
              simp at this
              omega
            · rintro a' w' s'' heq ⟨J', F', h1, h2, h3, h4⟩
              obtain ⟨J2, F2, k1, k2, k3⟩ := Sub.env (B := B) (s := s'') (l := l) (fun p hp => by rw [heq.look]; exact hhas.get p hp) J' F' w' a' h1 h2
              rw [← heq.n, ← heq.H] at hq
              exact hQ _ _ a' w' ⟨J2, F2, k1, k2, (hX.trans ((ext_drew J F w).trans h3).to0).trans k3, h4.trans hd⟩ hq
          · cases hc
      · cases hc
    · cases hc
  | seq x y ihx ihy =>
    intro ac hc Qa Q s a w hS hw hQ
    simp only [compC] at hc
    split at hc
    · rename_i x' y' hx hy
      cases hc
      refine wp_seq (ihx x' hx _ _ s a w hS hw ?_)
      intro e s' a' w' hS' h
      cases e <;> try exact hQ _ s' a' w' hS' h
      exact ihy y' hy Qa Q s' a' w' hS' h hQ
    · cases hc
  | cond c x y ihx ihy =>
    intro ac hc Qa Q s a w hS hw hQ
    simp only [compC] at hc
    split at hc
    · rename_i c' x' y' h1 hx hy
      cases hc
      obtain ⟨t, ht, h2, h3⟩ := hw
      obtain ⟨J, F, hE, hH, hX, hd⟩ := hS
      have hv := (orel hE).ev h1
      simp only [ht] at hv
      refine wp_cond hv.bool ?_
      cases t with
      | true => exact ihx x' hx Qa Q s a w ⟨J, F, hE, hH, hX, hd⟩ (h2 rfl) hQ
      | false => exact ihy y' hy Qa Q s a w ⟨J, F, hE, hH, hX, hd⟩ (h3 rfl) hQ
    · cases hc
  | block id x ih =>
    intro ac hc Qa Q s a w hS hw hQ
    simp only [compC, Option.map_eq_some_iff] at hc
    obtain ⟨x', hx, rfl⟩ := hc
    refine wp_block (ih x' hx _ _ s a w hS hw ?_)
    intro e s' a' w' hS' h
    cases e <;> try exact hQ _ s' a' w' hS' h
    rename_i id'
    simp only [inBlockA] at h
    simp only [Exit.inBlock]
    split at h
    · rename_i e; rw [if_pos e]; exact hQ _ s' a' w' hS' h
    · rename_i e; rw [if_neg e]; exact hQ _ s' a' w' hS' h
  | loop x ih =>
    intro ac hc Qa Q s a w hS hw hQ
    simp only [compC, Option.map_eq_some_iff] at hc
    obtain ⟨x', hx, rfl⟩ := hc
    refine wp_rounds (hw (fun s => ∀ a w, Stands B J0 F0 w0 d0 s a w → Rounds P x Q a w) ?_ a w hS)
    intro s s0 hsub hx0 a w hS
    obtain ⟨J, F, hE, hH, hX, hd⟩ := hS
    obtain ⟨J', F', h1, h2, h3⟩ := hsub J F w a hE hH
    refine rounds_step (ih x' hx _ _ s0 a w ⟨J', F', h1, h2, hX.trans h3, hd⟩ hx0 ?_)
    intro e s' a' w' hS' h
    cases e <;> try exact hQ _ s' a' w' hS' h
    exact h a' w' hS'
  | exit id =>
    intro ac hc Qa Q s a w hS hw hQ
    cases hc
    exact wp_exit (hQ _ _ _ _ hS hw)
  | ret =>
    intro ac hc Qa Q s a w hS hw hQ
    cases hc
    exact wp_ret (hQ _ _ _ _ hS hw)
  | _ =>
    intro ac hc
    simp [compC] at hc

theorem wpA_mono {ns : Id} : ∀ (c : ACode) (Q Q' : Exit → St → Prop) (s : St), (∀ e s, Q e s → Q' e s) → wpA C ns B c Q s → wpA C ns B c Q' s
  | .skip, Q, Q', s, h, hw => h _ _ hw
  | .region ops, Q, Q', s, h, ⟨s', h1, h2⟩ => ⟨s', h1, h _ _ h2⟩
  | .draw ops, Q, Q', s, h, ⟨s', l, h1, h2, h3⟩ => ⟨s', l, h1, h2, h _ _ h3⟩
  | .drawA ops _ _, Q, Q', s, h, ⟨ids, h0, h00, s', l, h1, h2, h3⟩ => ⟨ids, h0, h00, s', l, h1, h2, h _ _ h3⟩
  | .seq x y, Q, Q', s, h, hw => wpA_mono x _ _ s (fun e s hs => by
      cases e <;> first | exact h _ _ hs | exact wpA_mono y Q Q' s h hs) hw
  | .cond c x y, Q, Q', s, h, ⟨t, h1, h2, h3⟩ => ⟨t, h1, fun e => wpA_mono x Q Q' s h (h2 e), fun e => wpA_mono y Q Q' s h (h3 e)⟩
  | .block id x, Q, Q', s, h, hw => wpA_mono x _ _ s (fun e s hs => by
      cases e <;> try exact h _ _ hs
      simp only [inBlockA] at hs ⊢
      split at hs
      · rename_i e; rw [if_pos e]; exact h _ _ hs
      · rename_i e; rw [if_neg e]; exact h _ _ hs) hw
  | .loop x, Q, Q', s, h, hw => fun R hR => hw R fun s s0 hsub hx => hR s s0 hsub (wpA_mono x _ _ s0 (fun e s hs => by
      cases e <;> first | exact h _ _ hs | exact hs) hx)
  | .exit id, Q, Q', s, h, hw => h _ _ hw
  | .ret, Q, Q', s, h, hw => h _ _ hw

/-- One round, and the loop again; first, less may be said. -/
theorem loop_step {ns : Id} {x : ACode} {Q : Exit → St → Prop} {s s0 : St} (hs : Sub B s s0) (h : wpA C ns B x (thenA (wpA C ns B (.loop x) Q) Q) s0) : wpA C ns B (.loop x) Q s := by
  intro R hR
  refine hR s s0 hs (wpA_mono x _ _ s0 ?_ h)
  intro e s hs
  cases e <;> first | exact hs | exact hs R hR

theorem Sub.refl (s : St) : Sub B s s := fun J F w _ hE hH => ⟨J, F, hE, hH, Ext0.refl _ _ _⟩
theorem Sub.trans {s1 s2 s3 : St} (h : Sub B s1 s2) (h' : Sub B s2 s3) : Sub B s1 s3 := by
  intro J F w a hE hH
  obtain ⟨J1, F1, h1, h2, h3⟩ := h J F w a hE hH
  obtain ⟨J2, F2, h4, h5, h6⟩ := h' J1 F1 w a h1 h2
  exact ⟨J2, F2, h4, h5, h3.trans h6⟩

/-- A loop whose rounds make a number smaller. -/
theorem loop_inv {ns : Id} {x : ACode} {Q : Exit → St → Prop} (I : Nat → St → Prop) {s : St} (h0 : ∃ n s0, Sub B s s0 ∧ I n s0)
    (round : ∀ n s, I n s → wpA C ns B x (thenA (fun s' => ∃ n' s'', n' < n ∧ Sub B s' s'' ∧ I n' s'') Q) s) : wpA C ns B (.loop x) Q s := by
  have key : ∀ n s s0, Sub B s s0 → I n s0 → wpA C ns B (.loop x) Q s := by
    intro n
    induction n using Nat.strongRecOn with
    | ind n ih =>
      intro s s0 hs hI
      refine loop_step hs (wpA_mono x _ _ s0 ?_ (round n s0 hI))
      intro e s hs
      cases e <;> try exact hs
      obtain ⟨n', s'', hlt, hsub, hI'⟩ := hs
      exact ih n' hlt s s'' hsub hI'
  obtain ⟨n, s0, hs, hI⟩ := h0
  exact key n s s0 hs hI

end
end Go.AI
