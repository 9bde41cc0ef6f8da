/- Two operations that change places. -/
import Derived.Test.YtpolaeonmmolnaaAKb
namespace Go.AI
set_option linter.unusedVariables false
set_option linter.unusedSimpArgs false
section
variable {C : FuncId → Con} {ns : Id}

theorem semE0 {H : Hp} {ρ : Opd → AV} {ρp : Bool → Opd → AV} {id : Id} {o : AOp} (hc : cls o = 0) {x : AV} {H1 : Hp} (h : semE C H ρ ρp ns id o = some (x, H1)) : H1 = H ∧ ∀ H', semE C H' ρ ρp ns id o = some (x, H') := by
  cases o with
  | p o =>
    simp only [semE, Option.map_eq_some_iff, Prod.mk.injEq] at h ⊢
    obtain ⟨v, h1, h2, h3⟩ := h
    exact ⟨h3.symm, fun H' => ⟨v, h1, h2, trivial⟩⟩
  | r o => cases hc
  | a o => cases o <;> cases hc
  | w o => cases hc

theorem semE0_none {H : Hp} {ρ : Opd → AV} {ρp : Bool → Opd → AV} {id : Id} {o : AOp} (hc : cls o = 0) (h : semE C H ρ ρp ns id o = none) : ∀ H', semE C H' ρ ρp ns id o = none := by
  intro H'
  cases hq : semE C H' ρ ρp ns id o with
  | none => rfl
  | some p =>
    obtain ⟨x, H1⟩ := p
    rw [(semE0 hc hq).2 H] at h
    cases h

theorem semE1 {H H' : Hp} {ρ : Opd → AV} {ρp : Bool → Opd → AV} {id : Id} {o : AOp} (hc : cls o = 1) {x : AV} {H1 : Hp} (h : semE (flatC C) H ρ ρp ns id o = some (x, H1)) : H1 = H ∧ (Le H H' → semE (flatC C) H' ρ ρp ns id o = some (x, H')) := by
  cases o with
  | p o => cases hc
  | a o => cases o <;> cases hc
  | w o => cases hc
  | r o =>
    cases o with
    | load n a y =>
      simp only [semE, semR, Option.map_eq_some_iff, Prod.mk.injEq] at h ⊢
      obtain ⟨v, h1, h2, h3⟩ := h
      exact ⟨h3.symm, fun hle => ⟨v, loadA_le hle h1, h2, trivial⟩⟩
    | b2s y =>
      simp only [semE, semR, Option.map_eq_some_iff, Prod.mk.injEq, Option.bind_eq_some_iff] at h ⊢
      obtain ⟨v, ⟨l, ⟨e, h1, h4⟩, h5⟩, h2, h3⟩ := h
      exact ⟨h3.symm, fun hle => ⟨v, ⟨l, ⟨e, elems_le hle h1, h4⟩, h5⟩, h2, trivial⟩⟩
    | s2b y =>
      simp only [semE, semR, Option.map_eq_some_iff, Prod.mk.injEq] at h ⊢
      obtain ⟨v, h1, h2, h3⟩ := h
      exact ⟨h3.symm, fun hle => ⟨v, h1, h2, trivial⟩⟩
    | call f l => exact semC_flat h
    | callv y l =>
      simp only [semE] at h ⊢
      split at h
      · exact semC_flat h
      · exact semC_flat h
      · cases h

theorem semE2 {H : Hp} {ρ : Opd → AV} {ρp : Bool → Opd → AV} {id : Id} {o : AOp} (hc : cls o = 2) {x : AV} {H1 : Hp} (h : semE C H ρ ρp ns id o = some (x, H1)) :
    ∃ b, H id = none ∧ H1 = upd H id (some b) ∧ ∀ H', H' id = none → semE C H' ρ ρp ns id o = some (x, upd H' id (some b)) := by
  cases o with
  | p o => cases hc
  | r o => cases hc
  | w o => cases hc
  | a o =>
    have hs : ∀ H', semA C H' ρ id o = semA C H ρ id o := by
      intro H'
      cases o with
      | alloc z => rfl
      | bx y => rfl
      | bsl => cases hc
      | mks => cases hc
    simp only [semE] at h
    split at h
    · cases h
    · rename_i hid
      have hid : H id = none := by cases hq : H id <;> simp_all
      simp only [Option.map_eq_some_iff, Prod.mk.injEq] at h
      obtain ⟨⟨y, b⟩, h1, rfl, rfl⟩ := h
      refine ⟨b, hid, rfl, fun H' hid' => ?_⟩
      simp only [semE]
      rw [if_neg (by simp [hid']), hs H', h1]
      rfl

theorem eff_of {s : St} {i : AIns} {g : Bool} (h : gv s.env i.guard = some g) : eff C ns s i = effG C ns s i g := by
  unfold eff
  rw [h]

theorem eff_guard {s : St} {i : AIns} {r : AV × Hp} (h : eff C ns s i = some r) : ∃ g, gv s.env i.guard = some g ∧ effG C ns s i g = some r := by
  unfold eff at h
  split at h
  · rename_i g hg
    exact ⟨g, hg, h⟩
  · cases h

theorem eff0 {s : St} {i : AIns} (hc : cls i.op = 0) {x : AV} {H1 : Hp} (h : eff C ns s i = some (x, H1)) : H1 = s.H ∧ ∀ H', eff C ns ⟨s.env, H'⟩ i = some (x, H') := by
  obtain ⟨g, hg, h⟩ := eff_guard h
  have hg' : ∀ H', gv (St.mk s.env H').env i.guard = some g := fun _ => hg
  unfold effG at h
  split at h
  · rename_i hcalm
    cases hq : semE C s.H (fun x => unw g (evE s.env x)) (fun t x => unw (g && t) (evE s.env x)) ns (idOf i ns) i.op with
    | none =>
      rw [hq] at h
      have hn := semE0_none hc hq
      cases g with
      | true => cases h
      | false =>
        simp only [cond_false, Option.some.injEq, Prod.mk.injEq] at h
        obtain ⟨rfl, rfl⟩ := h
        refine ⟨rfl, fun H' => ?_⟩
        rw [eff_of (hg' H')]
        unfold effG
        rw [if_pos hcalm]
        simp only [hn H']
        rfl
    | some p =>
      obtain ⟨y, Hy⟩ := p
      rw [hq] at h
      simp only [Option.some.injEq, Prod.mk.injEq] at h
      obtain ⟨rfl, rfl⟩ := h
      refine ⟨rfl, fun H' => ?_⟩
      rw [eff_of (hg' H')]
      unfold effG
      rw [if_pos hcalm]
      simp only [(semE0 hc hq).2 H']
  · rename_i hcalm
    cases g with
    | true =>
      simp only [cond_true] at h
      obtain ⟨h1, h2⟩ := semE0 hc h
      refine ⟨h1, fun H' => ?_⟩
      rw [eff_of (hg' H')]
      unfold effG
      rw [if_neg hcalm]
      exact h2 H'
    | false =>
      simp only [cond_false, Option.some.injEq, Prod.mk.injEq] at h
      obtain ⟨rfl, rfl⟩ := h
      refine ⟨rfl, fun H' => ?_⟩
      rw [eff_of (hg' H')]
      unfold effG
      rw [if_neg hcalm]
      rfl

theorem eff1 {s : St} {i : AIns} (hc : cls i.op = 1) {x : AV} {H1 : Hp} (h : eff (flatC C) ns s i = some (x, H1)) : H1 = s.H ∧ ((calm i.op && i.guard.isSome) = false → ∀ H', Le s.H H' → eff (flatC C) ns ⟨s.env, H'⟩ i = some (x, H')) := by
  obtain ⟨g, hg, h⟩ := eff_guard h
  have hg' : ∀ H', gv (St.mk s.env H').env i.guard = some g := fun _ => hg
  unfold effG at h
  split at h
  · rename_i hcalm
    refine ⟨?_, fun hno => by rw [hcalm] at hno; cases hno⟩
    split at h
    · simp only [Option.some.injEq, Prod.mk.injEq] at h
      exact h.2.symm
    · cases g with
      | true => cases h
      | false =>
        simp only [cond_false, Option.some.injEq, Prod.mk.injEq] at h
        exact h.2.symm
  · rename_i hcalm
    cases g with
    | true =>
      simp only [cond_true] at h
      refine ⟨(semE1 (H' := s.H) hc h).1, fun _ H' hle => ?_⟩
      rw [eff_of (hg' H')]
      unfold effG
      rw [if_neg hcalm]
      exact (semE1 hc h).2 hle
    | false =>
      simp only [cond_false, Option.some.injEq, Prod.mk.injEq] at h
      obtain ⟨rfl, rfl⟩ := h
      refine ⟨rfl, fun _ H' _ => ?_⟩
      rw [eff_of (hg' H')]
      unfold effG
      rw [if_neg hcalm]
      rfl

theorem eff2 {s : St} {i : AIns} (hc : cls i.op = 2) {x : AV} {H1 : Hp} (h : eff C ns s i = some (x, H1)) :
    (∃ b, s.H (idOf i ns) = none ∧ H1 = upd s.H (idOf i ns) (some b) ∧ ∀ H', H' (idOf i ns) = none → eff C ns ⟨s.env, H'⟩ i = some (x, upd H' (idOf i ns) (some b))) ∨ (H1 = s.H ∧ ∀ H', eff C ns ⟨s.env, H'⟩ i = some (x, H')) := by
  obtain ⟨g, hg, h⟩ := eff_guard h
  have hg' : ∀ H', gv (St.mk s.env H').env i.guard = some g := fun _ => hg
  have hcalm : ¬ (calm i.op && i.guard.isSome) = true := by
    cases ho : i.op with
    | a o => simp [calm]
    | p o => rw [ho] at hc; cases hc
    | r o => rw [ho] at hc; cases hc
    | w o => rw [ho] at hc; cases hc
  unfold effG at h
  rw [if_neg hcalm] at h
  cases g with
  | true =>
    simp only [cond_true] at h
    obtain ⟨b, h1, h2, h3⟩ := semE2 hc h
    refine .inl ⟨b, h1, h2, fun H' hid => ?_⟩
    rw [eff_of (hg' H')]
    unfold effG
    rw [if_neg hcalm]
    exact h3 H' hid
  | false =>
    simp only [cond_false, Option.some.injEq, Prod.mk.injEq] at h
    obtain ⟨rfl, rfl⟩ := h
    refine .inr ⟨rfl, fun H' => ?_⟩
    rw [eff_of (hg' H')]
    unfold effG
    rw [if_neg hcalm]
    rfl

theorem eff4 {s : St} {i : AIns} (hc : cls i.op = 4) {x : AV} {H1 : Hp} (h : eff C ns s i = some (x, H1)) :
    (∃ b, s.H (idOf i ns) = none ∧ H1 = upd s.H (idOf i ns) (some b)) ∨ H1 = s.H := by
  obtain ⟨g, hg, h⟩ := eff_guard h
  cases ho : i.op with
  | p o => rw [ho] at hc; cases hc
  | r o => rw [ho] at hc; cases hc
  | w o => rw [ho] at hc; cases hc
  | a o =>
    have hcalm : ¬ (calm i.op && i.guard.isSome) = true := by rw [ho]; simp [calm]
    unfold effG at h
    rw [if_neg hcalm] at h
    cases g with
    | false =>
      simp only [cond_false, Option.some.injEq, Prod.mk.injEq] at h
      exact .inr h.2.symm
    | true =>
      simp only [cond_true, ho, semE] at h
      split at h
      · cases h
      · rename_i hid
        simp only [Option.map_eq_some_iff, Prod.mk.injEq] at h
        obtain ⟨⟨y, b⟩, _, rfl, rfl⟩ := h
        refine .inl ⟨b, ?_, rfl⟩
        cases hq : s.H (idOf i ns) <;> simp_all

/-- Do two operations look at nothing of each other's, and go to different places? -/
def apartI (k i : AIns) : Bool :=
  (match k.dst with | some d => !(readsI i).contains d && i.dst != some d | none => true) && (match i.dst with | some d => !(readsI k).contains d | none => true)

/-- May the second one come first? -/
def commB (k i : AIns) : Bool := apartI k i && (match cls k.op, cls i.op with
  | 0, _ => true
  | _, 0 => true
  | 1, 1 => true
  | 1, 2 => !(calm k.op && k.guard.isSome)
  | 2, 2 => k.dst.isSome && i.dst.isSome
  | 1, 4 => !(calm k.op && k.guard.isSome)
  | _, _ => false)

end
end Go.AI
