/- A region in any order. -/
import Derived.Test.YtpolaeonmmolnaaAKc
import Derived.Orders
namespace Go.AI
set_option linter.unusedVariables false
set_option linter.unusedSimpArgs false
section
variable {C : FuncId → Con} {ns : Id}

theorem apartI_spec {k i : AIns} (h : apartI k i = true) : (∀ d, k.dst = some d → d ∉ readsI i) ∧ (∀ d, i.dst = some d → d ∉ readsI k) ∧ (∀ d, k.dst = some d → i.dst ≠ some d) := by
  unfold apartI at h
  simp only [Bool.and_eq_true] at h
  obtain ⟨h1, h2⟩ := h
  refine ⟨fun d hd => ?_, fun d hd => ?_, fun d hd => ?_⟩
  · rw [hd] at h1; simp at h1; exact h1.1
  · rw [hd] at h2; simpa using h2
  · rw [hd] at h1; simp at h1; exact h1.2

theorem step_inv {s t : St} {i : AIns} (h : step C ns s i = some t) : ∃ x H, eff C ns s i = some (x, H) ∧ t = ⟨putE s.env i.dst x, H⟩ := by
  unfold step at h
  split at h
  · cases h
    rename_i x H he
    exact ⟨x, H, he, rfl⟩
  · cases h

theorem step_of {s : St} {i : AIns} {x : AV} {H : Hp} (h : eff C ns s i = some (x, H)) : step C ns s i = some ⟨putE s.env i.dst x, H⟩ := by
  unfold step
  rw [h]

/-- A value that is put where an operation does not look. -/
theorem eff_put {env : Env} {H : Hp} {i : AIns} {d : Option Nat} {x : AV} (h : ∀ e, d = some e → e ∉ readsI i) : eff C ns ⟨putE env d x, H⟩ i = eff C ns ⟨env, H⟩ i := by
  refine eff_same rfl (fun t ht => ?_)
  simp only [look_put]
  rw [if_neg]
  rintro ⟨h1, _⟩
  exact h t h1 ht

theorem put_swap {env : Env} {d e : Option Nat} {x y : AV} (h : ∀ q, d = some q → e ≠ some q) (H : Hp) : Eqv ⟨putE (putE env e y) d x, H⟩ ⟨putE (putE env d x) e y, H⟩ := by
  refine ⟨by simp only [n_put], fun t => ?_, rfl⟩
  simp only [look_put, n_put]
  by_cases h1 : d = some t ∧ t < env.n
  · rw [if_pos h1]
    by_cases h2 : e = some t ∧ t < env.n
    · exact absurd h2.1 (h t h1.1)
    · rw [if_neg h2, if_pos h1]
  · rw [if_neg h1]
    by_cases h2 : e = some t ∧ t < env.n
    · rw [if_pos h2, if_pos h2]
    · rw [if_neg h2, if_neg h2, if_neg h1]

/-- **Two operations change places.** -/
theorem swap {s s1 s2 : St} {k i : AIns} (hc : commB k i = true) (h1 : step (flatC C) ns s k = some s1) (h2 : step (flatC C) ns s1 i = some s2) :
    ∃ t t2, step (flatC C) ns s i = some t ∧ step (flatC C) ns t k = some t2 ∧ Eqv t2 s2 := by
  unfold commB at hc
  simp only [Bool.and_eq_true] at hc
  obtain ⟨ha, hk⟩ := hc
  obtain ⟨a1, a2, a3⟩ := apartI_spec ha
  obtain ⟨x, H1, e1, rfl⟩ := step_inv h1
  obtain ⟨y, H2, e2, rfl⟩ := step_inv h2
  rw [eff_put a1] at e2
  -- what is left to be shown, once the heap behind is known
  have fin : ∀ Hi, eff (flatC C) ns s i = some (y, Hi) → eff (flatC C) ns ⟨s.env, Hi⟩ k = some (x, H2) → ∃ t t2, step (flatC C) ns s i = some t ∧ step (flatC C) ns t k = some t2 ∧ Eqv t2 ⟨putE (putE s.env k.dst x) i.dst y, H2⟩ := by
    intro Hi q1 q2
    refine ⟨_, _, step_of q1, step_of (s := ⟨putE s.env i.dst y, Hi⟩) (x := x) (H := H2) ?_, put_swap a3 H2⟩
    rw [eff_put a2]
    exact q2
  have e1' : eff (flatC C) ns ⟨s.env, s.H⟩ k = some (x, H1) := e1
  split at hk
  · rename_i c0
    obtain ⟨rfl, f⟩ := eff0 c0 e1
    exact fin H2 e2 (f H2)
  · rename_i c0 _
    obtain ⟨q1, q2⟩ := eff0 c0 e2
    simp only at q1
    subst q1
    exact fin s.H (q2 s.H) e1'
  · rename_i c1 c2
    obtain ⟨rfl, _⟩ := eff1 c1 e1
    obtain ⟨q1, _⟩ := eff1 c2 e2
    simp only at q1
    subst q1
    exact fin s.H e2 e1'
  · rename_i c1 c2
    obtain ⟨rfl, f⟩ := eff1 c1 e1
    rcases eff2 c2 e2 with ⟨b, q1, q2, q3⟩ | ⟨q2, q3⟩
    · refine fin H2 e2 (f (by cases hq : (calm k.op && k.guard.isSome) with | false => rfl | true => rw [hq] at hk; cases hk) H2 ?_)
      rw [q2]
      intro id bb hb
      by_cases e : id = idOf i ns
      · subst e; simp only at q1; rw [q1] at hb; cases hb
      · simp only [upd, if_neg e]; exact hb
    · simp only at q2
      subst q2
      exact fin s.H e2 e1'
  · rename_i c1 c2
    simp only [Bool.and_eq_true] at hk
    have hne : idOf k ns ≠ idOf i ns := by
      intro e
      unfold idOf at e
      obtain ⟨dk, hdk⟩ := Option.isSome_iff_exists.1 hk.1
      obtain ⟨di, hdi⟩ := Option.isSome_iff_exists.1 hk.2
      rw [hdk, hdi] at e
      simp at e
      exact a3 dk hdk (by rw [hdi, e])
    rcases eff2 c1 e1 with ⟨b, q1, q2, q3⟩ | ⟨q2, q3⟩
    · rcases eff2 c2 e2 with ⟨b', r1, r2, r3⟩ | ⟨r2, r3⟩
      · simp only at r1 r2
        have r0 : s.H (idOf i ns) = none := by
          rw [q2] at r1
          simpa [upd, Ne.symm hne] using r1
        refine fin (upd s.H (idOf i ns) (some b')) (r3 s.H r0) ?_
        rw [q3 _ (by simp only [upd, if_neg hne]; exact q1)]
        rw [r2, q2]
        congr 2
        funext id
        simp only [upd]
        by_cases f1 : id = idOf k ns
        · subst f1; simp [hne]
        · by_cases f2 : id = idOf i ns
          · subst f2; simp [f1]
          · simp [f1, f2]
      · simp only at r2
        subst r2
        exact fin s.H (r3 s.H) e1'
    · subst q2
      exact fin H2 e2 (by
        rcases eff2 c2 e2 with ⟨b', r1, r2, r3⟩ | ⟨r2, r3⟩
        · exact q3 H2
        · exact q3 H2)
  · rename_i c1 c4
    obtain ⟨rfl, f⟩ := eff1 c1 e1
    rcases eff4 c4 e2 with ⟨b, q1, q2⟩ | q2
    · refine fin H2 e2 (f (by cases hq : (calm k.op && k.guard.isSome) with | false => rfl | true => rw [hq] at hk; cases hk) H2 ?_)
      rw [q2]
      intro id bb hb
      by_cases e : id = idOf i ns
      · subst e; simp only at q1; rw [q1] at hb; cases hb
      · simp only [upd, if_neg e]; exact hb
    · simp only at q2
      subst q2
      exact fin s.H e2 e1'
  · cases hk

/-- The second one may come first, where something holds of the state. -/
def Comm (C : FuncId → Con) (ns : Id) (Inv : St → Prop) (k i : AIns) : Prop :=
  ∀ s s1 s2, Inv s → step (flatC C) ns s k = some s1 → step (flatC C) ns s1 i = some s2 → ∃ t t2, step (flatC C) ns s i = some t ∧ step (flatC C) ns t k = some t2 ∧ Eqv t2 s2

theorem Comm.of_commB {Inv : St → Prop} {k i : AIns} (hc : commB k i = true) : Comm C ns Inv k i := fun _ _ _ _ h1 h2 => swap hc h1 h2

/-- **One operation comes first.** -/
theorem bubble {Inv : St → Prop} : ∀ (pre : List AIns) (i : AIns) (post : List AIns) (s sf : St), (∀ k ∈ pre, ∀ s s', Inv s → step (flatC C) ns s k = some s' → Inv s') → Inv s → (∀ k ∈ pre, Comm C ns Inv k i) → run (flatC C) ns (pre ++ i :: post) s = some sf → ∃ s1 sf', step (flatC C) ns s i = some s1 ∧ run (flatC C) ns (pre ++ post) s1 = some sf' ∧ Eqv sf' sf
  | [], i, post, s, sf, _, _, _, h => by
    simp only [List.nil_append, run] at h ⊢
    split at h
    · rename_i s1 h1
      exact ⟨s1, sf, h1, h, .refl _⟩
    · cases h
  | k :: pre, i, post, s, sf, hp, hI, hk, h => by
    simp only [List.cons_append, run] at h ⊢
    split at h
    · rename_i s1 h1
      obtain ⟨s2, sf', q1, q2, q3⟩ := bubble pre i post s1 sf (fun k' hk' => hp k' (by simp [hk'])) (hp k (by simp) s s1 hI h1) (fun k' hk' => hk k' (by simp [hk'])) h
      obtain ⟨t, t2, r1, r2, r3⟩ := hk k (by simp) s s1 s2 hI h1 q1
      obtain ⟨sf'', u1, u2⟩ := Eqv.run r3.symm q2
      refine ⟨t, sf'', r1, ?_, u2.symm.trans q3⟩
      rw [r2]
      exact u1
    · cases h

/-! ### A load and a store of other blocks -/

def lk : List (Nat × Nat) → Nat → Option Nat
  | [], _ => none
  | (t, c) :: l, u => if t = u then some c else lk l u

def ptrOk (i : Id) : AV → Prop
  | .box id _ => id = i
  | .elt .. => False
  | .may .. => False
  | _ => True

/-- Temporaries of a class point into the class's block. -/
def InvA (L : List (Nat × Nat)) (ids : Nat → Id) (s : St) : Prop := ∀ t c, lk L t = some c → ptrOk (ids c) (look s.env.l t)

def invT (ids : Nat → Id) (s : St) : List (Nat × Nat) → Prop
  | [] => True
  | (t, c) :: l => ptrOk (ids c) (look s.env.l t) ∧ invT ids s l

theorem invT_inv {ids : Nat → Id} {s : St} : ∀ {L : List (Nat × Nat)}, invT ids s L → InvA L ids s
  | [], _, t, c, h => by cases h
  | (u, d) :: l, h, t, c, hc => by
    simp only [lk] at hc
    split at hc
    · rename_i e
      cases hc
      subst e
      exact h.1
    · exact invT_inv h.2 t c hc

/-- An operation whose place is in a class comes by it from one of the class. -/
def okA (L : List (Nat × Nat)) (i : AIns) : Bool :=
  match i.dst with
  | none => true
  | some d => match lk L d with
    | none => true
    | some c => i.guard.isNone && (match i.op with
      | .p (.foff _ (.t b)) => lk L b == some c
      | .p (.mv (.t b)) => lk L b == some c
      | .p (.chk (.t b)) => lk L b == some c
      | _ => false)

theorem InvA.eqv {L : List (Nat × Nat)} {ids : Nat → Id} {s s' : St} (h : Eqv s s') (hI : InvA L ids s) : InvA L ids s' := by
  intro t c hc
  have := hI t c hc
  rw [h.look] at this
  exact this

theorem InvA.step {L : List (Nat × Nat)} {ids : Nat → Id} {s s' : St} {i : AIns} (hok : okA L i = true) (hI : InvA L ids s) (h : AI.step (flatC C) ns s i = some s') : InvA L ids s' := by
  obtain ⟨x, H, he, rfl⟩ := step_inv h
  intro t c hc
  simp only [look_put]
  split
  · rename_i hd
    unfold okA at hok
    rw [hd.1] at hok
    simp only [hc, Bool.and_eq_true] at hok
    obtain ⟨hg, hop⟩ := hok
    have hg' : i.guard = none := by cases hq : i.guard <;> simp_all
    have he' : semE (flatC C) s.H (fun x => unw true (evE s.env x)) (fun t x => unw t (evE s.env x)) ns (idOf i ns) i.op = some (x, H) := by
      unfold eff at he
      rw [hg'] at he
      simp only [gv] at he
      unfold effG at he
      rw [hg'] at he
      simpa using he
    have base : ∀ b, lk L b = some c → ptrOk (ids c) (unw true (look s.env.l b)) := by
      intro b hb
      have := hI b c hb
      generalize look s.env.l b = y at this
      cases y <;> first | exact this | exact this.elim
    split at hop
    · rename_i o b hop'
      rw [hop'] at he'
      have hb := base b (by simpa using hop)
      simp only [semE, semP, evE, Option.map_eq_some_iff, Prod.mk.injEq] at he'
      obtain ⟨v, hv, rfl, _⟩ := he'
      generalize unw true (look s.env.l b) = y at hb hv
      cases y <;> simp only [AV.moved, reduceCtorEq, Option.some.injEq] at hv
      · rename_i d
        cases d <;> simp only [reduceCtorEq, Option.some.injEq] at hv
        subst hv
        trivial
      · subst hv; exact hb
      · exact hb.elim
    · rename_i b hop'
      rw [hop'] at he'
      have hb := base b (by simpa using hop)
      simp only [semE, semP, evE, Option.map_some, Option.some.injEq, Prod.mk.injEq] at he'
      rw [← he'.1]
      exact hb
    · rename_i b hop'
      rw [hop'] at he'
      have hb := base b (by simpa using hop)
      simp only [semE, semP, evE, Option.map_eq_some_iff, Prod.mk.injEq] at he'
      obtain ⟨v, hv, rfl, _⟩ := he'
      generalize unw true (look s.env.l b) = y at hb hv
      have : v = y := by
        split at hv <;> first | (cases hv; rfl) | cases hv
      rw [this]
      exact hb
    · cases hop
  · exact hI t c hc

/-- May a store come before a load: they are of other classes. -/
def commA (L needs : List (Nat × Nat)) (k i : AIns) : Bool :=
  apartI k i && k.guard.isNone && i.guard.isNone && (match k.op, i.op with
    | .r (.load _ _ (.t x)), .w (.store _ (.t y) _) => (match lk L x, lk L y with
      | some c, some d => needs.contains (c, d)
      | _, _ => false)
    | _, _ => false)

theorem Comm.of_commA {L needs : List (Nat × Nat)} {ids : Nat → Id} (hn : ∀ p ∈ needs, ids p.1 ≠ ids p.2) {k i : AIns} (hc : commA L needs k i = true) : Comm C ns (InvA L ids) k i := by
  intro s s1 s2 hI h1 h2
  unfold commA at hc
  simp only [Bool.and_eq_true] at hc
  obtain ⟨⟨⟨ha, hgk⟩, hgi⟩, hop⟩ := hc
  have hgk' : k.guard = none := by cases hq : k.guard <;> simp_all
  have hgi' : i.guard = none := by cases hq : i.guard <;> simp_all
  obtain ⟨a1, a2, a3⟩ := apartI_spec ha
  obtain ⟨x, H1, e1, rfl⟩ := step_inv h1
  obtain ⟨y, H2, e2, rfl⟩ := step_inv h2
  rw [eff_put a1] at e2
  split at hop
  · rename_i n agg tx n' ty v hk hi
    split at hop
    · rename_i c d hcx hdy
      have hne : ids c ≠ ids d := hn (c, d) (by simpa using hop)
      have ek : ∀ H, eff (flatC C) ns ⟨s.env, H⟩ k = (loadA H n agg (unw true (look s.env.l tx))).map fun v => (v, H) := by
        intro H
        unfold eff
        rw [hgk']
        simp only [gv]
        unfold effG
        rw [hgk', hk]
        simp [calm, semE, semR, evE]
      have ei : ∀ H, eff (flatC C) ns ⟨s.env, H⟩ i = semW (flatC C) H (fun x => unw true (evE s.env x)) ns (idOf i ns) (.store n' (.t ty) v) := by
        intro H
        unfold eff
        rw [hgi']
        simp only [gv]
        unfold effG
        rw [hgi', hi]
        simp [calm, semE]
      have e1' : eff (flatC C) ns ⟨s.env, s.H⟩ k = some (x, H1) := e1
      rw [ek, Option.map_eq_some_iff] at e1'
      obtain ⟨x', hx', hxx⟩ := e1'
      simp only [Prod.mk.injEq] at hxx
      obtain ⟨rfl, rfl⟩ := hxx
      have hyd := hI ty d hdy
      have hxc := hI tx c hcx
      have e2' := e2
      rw [ei] at e2'
      simp only [semW, evE] at e2'
      -- the store is to a box
      split at e2'
      · rename_i cs hcs
        split at e2'
        · rename_i hl
          have ux : ∀ t c, lk L t = some c → unw true (look s.env.l t) = look s.env.l t := by
            intro t c hc
            have := hI t c hc
            generalize look s.env.l t = z at this
            cases z <;> first | rfl | exact this.elim
          rw [ux ty d hdy] at e2'
          rw [ux tx c hcx] at hx'
          cases hy : look s.env.l ty <;> rw [hy] at e2' hyd <;> try (simp only [reduceCtorEq] at e2'; done)
          · rename_i b o
            simp only [ptrOk] at hyd
            simp only at e2'
            split at e2'
            · rename_i cells hb
              split at e2'
              · rename_i ho
                simp only [Option.some.injEq, Prod.mk.injEq] at e2'
                obtain ⟨rfl, rfl⟩ := e2'
                have hload : loadA (upd s.H b (some (.box (splice cells o cs)))) n agg (look s.env.l tx) = some x' := by
                  rw [← hx']
                  cases hz : look s.env.l tx with
                  | box id' o' =>
                    rw [hz] at hxc
                    simp only [ptrOk] at hxc
                    simp only [loadA]
                    rw [show upd s.H b (some (.box (splice cells o cs))) id' = s.H id' by
                      simp only [upd]
                      rw [if_neg (fun e => hne (by rw [← hxc, ← hyd, e]))]]
                  | elt => rw [hz] at hxc; exact hxc.elim
                  | may => rw [hz] at hxc; exact hxc.elim
                  | val d => cases d <;> rfl
                  | row => rfl
                  | agg => rfl
                  | tup => rfl
                  | clo => rfl
                  | junk => rfl
                refine ⟨_, _, step_of e2, step_of (s := ⟨putE s.env i.dst (.val (.tup [])), _⟩) (x := x') (H := upd s.H b (some (.box (splice cells o cs)))) ?_, put_swap a3 _⟩
                rw [eff_put a2, ek, ux tx c hcx, hload]
                rfl
              · cases e2'
            · cases e2'
          · exact hyd.elim
        · cases e2'
      · cases e2'
    · cases hop
  · cases hop

end
end Go.AI
