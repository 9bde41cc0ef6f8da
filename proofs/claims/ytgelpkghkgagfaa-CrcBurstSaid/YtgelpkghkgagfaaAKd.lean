/- A region in any order. -/
import Derived.Test.YtgelpkghkgagfaaAKc
import Derived.Orders
namespace Go.AI
set_option linter.unusedVariables false
set_option linter.unusedSimpArgs false
section
variable {C : FuncId → Con} {ns : Id}

theorem apartI_spec {k i : AIns} (h : apartI k i = true) : (∀ d, k.dst = some d → d ∉ readsI i) ∧ (∀ d, i.dst = some d → d ∉ readsI k) ∧ (∀ d, k.dst = some d → i.dst ≠ some d) := by
  unfold apartI at h
  simp only [Bool.and_eq_true] at h
  obtain ⟨h1, h2⟩ := h
  refine ⟨fun d hd => ?_, fun d hd => ?_, fun d hd => ?_⟩
  · rw [hd] at h1; simp at h1; exact h1.1
  · rw [hd] at h2; simpa using h2
  · rw [hd] at h1; simp at h1; exact h1.2

theorem step_inv {s t : St} {i : AIns} (h : step C ns s i = some t) : ∃ x H, eff C ns s i = some (x, H) ∧ t = ⟨putE s.env i.dst x, H⟩ := by
  unfold step at h
  split at h
  · cases h
    rename_i x H he
    exact ⟨x, H, he, rfl⟩
  · cases h

theorem step_of {s : St} {i : AIns} {x : AV} {H : Hp} (h : eff C ns s i = some (x, H)) : step C ns s i = some ⟨putE s.env i.dst x, H⟩ := by
  unfold step
  rw [h]

/-- A value that is put where an operation does not look. -/
theorem eff_put {env : Env} {H : Hp} {i : AIns} {d : Option Nat} {x : AV} (h : ∀ e, d = some e → e ∉ readsI i) : eff C ns ⟨putE env d x, H⟩ i = eff C ns ⟨env, H⟩ i := by
  refine eff_same rfl (fun t ht => ?_)
  simp only [look_put]
  rw [if_neg]
  rintro ⟨h1, _⟩
  exact h t h1 ht

theorem put_swap {env : Env} {d e : Option Nat} {x y : AV} (h : ∀ q, d = some q → e ≠ some q) (H : Hp) : Eqv ⟨putE (putE env e y) d x, H⟩ ⟨putE (putE env d x) e y, H⟩ := by
  refine ⟨by simp only [n_put], fun t => ?_, rfl⟩
  simp only [look_put, n_put]
  by_cases h1 : d = some t ∧ t < env.n
  · rw [if_pos h1]
    by_cases h2 : e = some t ∧ t < env.n
    · exact absurd h2.1 (h t h1.1)
    · rw [if_neg h2, if_pos h1]
  · rw [if_neg h1]
    by_cases h2 : e = some t ∧ t < env.n
    · rw [if_pos h2, if_pos h2]
    · rw [if_neg h2, if_neg h2, if_neg h1]

/-- **Two operations change places.** -/
theorem swap {s s1 s2 : St} {k i : AIns} (hc : commB k i = true) (h1 : step (flatC C) ns s k = some s1) (h2 : step (flatC C) ns s1 i = some s2) :
    ∃ t t2, step (flatC C) ns s i = some t ∧ step (flatC C) ns t k = some t2 ∧ Eqv t2 s2 := by
  unfold commB at hc
  simp only [Bool.and_eq_true] at hc
  obtain ⟨ha, hk⟩ := hc
  obtain ⟨a1, a2, a3⟩ := apartI_spec ha
  obtain ⟨x, H1, e1, rfl⟩ := step_inv h1
  obtain ⟨y, H2, e2, rfl⟩ := step_inv h2
  rw [eff_put a1] at e2
  -- what is left to be shown, once the heap behind is known
  have fin : ∀ Hi, eff (flatC C) ns s i = some (y, Hi) → eff (flatC C) ns ⟨s.env, Hi⟩ k = some (x, H2) → ∃ t t2, step (flatC C) ns s i = some t ∧ step (flatC C) ns t k = some t2 ∧ Eqv t2 ⟨putE (putE s.env k.dst x) i.dst y, H2⟩ := by
    intro Hi q1 q2
    refine ⟨_, _, step_of q1, step_of (s := ⟨putE s.env i.dst y, Hi⟩) (x := x) (H := H2) ?_, put_swap a3 H2⟩
    rw [eff_put a2]
    exact q2
  have e1' : eff (flatC C) ns ⟨s.env, s.H⟩ k = some (x, H1) := e1
  split at hk
  · rename_i c0
    obtain ⟨rfl, f⟩ := eff0 c0 e1
    exact fin H2 e2 (f H2)
  · rename_i c0 _
    obtain ⟨q1, q2⟩ := eff0 c0 e2
    simp only at q1
    subst q1
    exact fin s.H (q2 s.H) e1'
  · rename_i c1 c2
    obtain ⟨rfl, _⟩ := eff1 c1 e1
    obtain ⟨q1, _⟩ := eff1 c2 e2
    simp only at q1
    subst q1
    exact fin s.H e2 e1'
  · rename_i c1 c2
    obtain ⟨rfl, f⟩ := eff1 c1 e1
    rcases eff2 c2 e2 with ⟨b, q1, q2, q3⟩ | ⟨q2, q3⟩
    · refine fin H2 e2 (f (by cases hq : (calm k.op && k.guard.isSome) with | false => rfl | true => rw [hq] at hk; cases hk) H2 ?_)
      rw [q2]
      intro id bb hb
      by_cases e : id = idOf i ns
      · subst e; simp only at q1; rw [q1] at hb; cases hb
      · simp only [upd, if_neg e]; exact hb
    · simp only at q2
      subst q2
      exact fin s.H e2 e1'
  · rename_i c1 c2
    simp only [Bool.and_eq_true] at hk
    have hne : idOf k ns ≠ idOf i ns := by
      intro e
      unfold idOf at e
      obtain ⟨dk, hdk⟩ := Option.isSome_iff_exists.1 hk.1
      obtain ⟨di, hdi⟩ := Option.isSome_iff_exists.1 hk.2
      rw [hdk, hdi] at e
      simp at e
      exact a3 dk hdk (by rw [hdi, e])
    rcases eff2 c1 e1 with ⟨b, q1, q2, q3⟩ | ⟨q2, q3⟩
    · rcases eff2 c2 e2 with ⟨b', r1, r2, r3⟩ | ⟨r2, r3⟩
      · simp only at r1 r2
        have r0 : s.H (idOf i ns) = none := by
          rw [q2] at r1
          simpa [upd, Ne.symm hne] using r1
        refine fin (upd s.H (idOf i ns) (some b')) (r3 s.H r0) ?_
        rw [q3 _ (by simp only [upd, if_neg hne]; exact q1)]
        rw [r2, q2]
        congr 2
        funext id
        simp only [upd]
        by_cases f1 : id = idOf k ns
        · subst f1; simp [hne]
        · by_cases f2 : id = idOf i ns
          · subst f2; simp [f1]
          · simp [f1, f2]
      · simp only at r2
        subst r2
        exact fin s.H (r3 s.H) e1'
    · subst q2
      exact fin H2 e2 (by
        rcases eff2 c2 e2 with ⟨b', r1, r2, r3⟩ | ⟨r2, r3⟩
        · exact q3 H2
        · exact q3 H2)
  · cases hk

/-- **One operation comes first.** -/
theorem bubble : ∀ (pre : List AIns) (i : AIns) (post : List AIns) (s sf : St), (∀ k ∈ pre, commB k i = true) → run (flatC C) ns (pre ++ i :: post) s = some sf → ∃ s1 sf', step (flatC C) ns s i = some s1 ∧ run (flatC C) ns (pre ++ post) s1 = some sf' ∧ Eqv sf' sf
  | [], i, post, s, sf, _, h => by
    simp only [List.nil_append, run] at h ⊢
    split at h
    · rename_i s1 h1
      exact ⟨s1, sf, h1, h, .refl _⟩
    · cases h
  | k :: pre, i, post, s, sf, hk, h => by
    simp only [List.cons_append, run] at h ⊢
    split at h
    · rename_i s1 h1
      obtain ⟨s2, sf', q1, q2, q3⟩ := bubble pre i post s1 sf (fun k' hk' => hk k' (by simp [hk'])) h
      obtain ⟨t, t2, r1, r2, r3⟩ := swap (hk k (by simp)) h1 q1
      obtain ⟨sf'', u1, u2⟩ := Eqv.run r3.symm q2
      refine ⟨t, sf'', r1, ?_, u2.symm.trans q3⟩
      rw [r2]
      exact u1
    · cases h

end
end Go.AI
