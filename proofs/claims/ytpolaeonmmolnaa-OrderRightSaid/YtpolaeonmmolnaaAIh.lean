/- What only computes: every operation. -/
import Derived.Test.YtpolaeonmmolnaaAIg
namespace Go.AI
set_option linter.unusedVariables false
set_option linter.unusedSimpArgs false
section
variable {P : Program} {J : Id → JI} {F : Nat → Prop} {w : World} {ρ : Opd → AV} {ρp : Bool → Opd → AV} {a : Act}

theorem yields_of {o : Oper} {x : AV} {s : Sem Value} {v : Value} (ho : execOp a.eval o = (do pure (.value (← s)))) (hs : s.run P w = .ok v w) (hv : VRel J F w x v) : Yields P J F w a o x :=
  ⟨v, by rw [ho, Sem.run_bind, hs]; rfl, hv⟩

theorem pt_drop {cs : List DV} {v : Value} (h : Rep F w (.pt cs) v) : ∃ g o, v = .pointer (some ⟨g, o, none⟩) ∧ ∀ n, Rep F w (.pt (cs.drop n)) (.pointer (some ⟨g, o + n, none⟩)) := by
  cases h with
  | pt _ g o vals hF hcell hrep =>
    refine ⟨g, o, rfl, fun n => ?_⟩
    refine .pt _ g (o + n) (fun j => vals (n + j)) hF ?_ ?_
    · intro j d h
      rw [List.getElem?_drop] at h
      rw [Nat.add_assoc]
      exact hcell _ _ h
    · intro j d h
      rw [List.getElem?_drop] at h
      exact hrep _ _ h

/-- Where an address moves on. -/
theorem foff_rel {x y : AV} {v : Value} {n : Nat} (hv : VRel J F w x v) (h : x.moved n = some y) : ∃ p, v = .pointer (some p) ∧ VRel J F w y (.pointer (some (p.add n))) := by
  cases hv with
  | box id i g own s cap h' =>
    cases h
    exact ⟨_, rfl, by rw [Addr.add_mid]; exact .box _ _ _ _ _ _ h'⟩
  | boxDead id i p h' => cases h; exact ⟨p, rfl, .boxDead _ _ _ h'⟩
  | elt id i j g own s cap h' =>
    cases h
    exact ⟨_, rfl, by rw [Addr.add_mid, Nat.add_assoc]; exact .elt _ _ _ _ _ _ _ h'⟩
  | eltDead id i j p h' => cases h; exact ⟨p, rfl, .eltDead _ _ _ _ h'⟩
  | val d _ h' =>
    cases d with
    | pt cs =>
      cases h
      obtain ⟨g, o, rfl, hn⟩ := pt_drop h'
      exact ⟨_, rfl, by rw [Addr.add_mid]; exact .val _ _ (hn n)⟩
    | _ => cases h
  | _ => cases h


theorem cOpt_some {x : Option Operand} {y : Opd} (h : cOpt x = some (some y)) : ∃ z, x = some z ∧ cOpd z = some y := by
  cases x with
  | none => simp [cOpt] at h
  | some z => simp only [cOpt, Option.map_eq_some_iff, Option.some.injEq] at h; obtain ⟨u, h1, rfl⟩ := h; exact ⟨z, rfl, h1⟩

theorem cOpt_none {x : Option Operand} (h : cOpt x = some none) : x = none := by
  cases x with
  | none => rfl
  | some z => simp [cOpt] at h

theorem cOpt_isSome {x : Option Operand} {y : Option Opd} (h : cOpt x = some y) : y.isSome = x.isSome := by
  cases x with
  | none => simp [cOpt] at h; subst h; rfl
  | some z => simp only [cOpt, Option.map_eq_some_iff] at h; obtain ⟨u, _, rfl⟩ := h; rfl

theorem slice_sound (hr : ORel J F w ρ a) {o : Oper} {t e : TypeId} {x : Operand} {lo hi mx : Option Operand} {x' : Opd} {lo' hi' mx' : Option Opd} (ho : o.op = .slice t x lo hi mx)
    (hx : cOpd x = some x') (h1 : cOpt lo = some lo') (h2 : cOpt hi = some hi') (h3 : cOpt mx = some mx') (ht : P.underlying t = some (.slice e)) {i : TypeInfo} (hi0 : P.info? e = some i)
    (hmh : ¬ (mx'.isSome = true ∧ hi'.isNone = true)) {y : AV} (hs : semP ρ ρp (.slice (P.cellsOf e) x' lo' hi' mx') = some y) : Yields P J F w a o y := by
  have hv := hr.ev hx
  have run : ∀ p n c l h m, a.eval x = .slice p n c → (Instr.sliceBounds true n c (lo.map a.eval) (hi.map a.eval) (mx.map a.eval)).run P w = .ok (l, h, m) w →
      (execOp a.eval o).run P w = .ok (.value (.slice (if m = l then p else p.map (·.add (l * P.cellsOf e))) (h - l) (m - l))) w := by
    intro p n c l h m hx hb
    unfold execOp
    simp only [ho, hx, Instr.sliceAt, Instr.slice, Sem.run_bind, run_underlying ht, Result.andThen_ok, hb, run_sizeOf hi0, Sem.run_pure, cellsOf_info hi0]
  simp only [semP] at hs
  split at hs
  · rename_i s' l hx'
    rw [hx'] at hv
    split at hs
    · rename_i hss
      subst hss
      simp only [Option.map_eq_some_iff] at hs
      obtain ⟨⟨al, h, m⟩, hb, hy⟩ := hs
      have hval := hv.inv_val
      have hsl : ∃ p c, a.eval x = .slice p l.length c ∧ l.length ≤ c := by
        generalize a.eval x = u at hval
        cases hval with
        | sl0 _ p c => exact ⟨p, c, rfl, Nat.zero_le _⟩
        | sl _ _ g o c vals _ hc _ _ _ => exact ⟨_, c, rfl, hc⟩
      obtain ⟨p, c, hpc, hlc⟩ := hsl
      obtain ⟨q1, q2, q3, hrun⟩ := sliceBounds_run (P := P) (isSlice := true) hlc hr h1 h2 h3 hmh hb
      refine ⟨_, run p l.length c al h _ hpc hrun, ?_⟩
      rw [hpc] at hval
      have hm : h ≤ (if mx'.isSome = true then m else c) ∧ (if mx'.isSome = true then m else c) ≤ c := by split <;> omega
      simp only at hy
      split at hy
      · rename_i hc
        subst hy
        rw [if_pos hc.1]
        have : h = al := by omega
        subst this
        rw [hc.2, Nat.sub_self]
        exact .val _ _ (.nils _ _)
      · subst hy
        exact .val _ _ (slice_rep hval q1 (by omega) hm.1 hm.2)
    · cases hs
  · rename_i s' hx'
    rw [hx'] at hv
    simp only [Option.map_eq_some_iff] at hs
    obtain ⟨⟨al, h, m⟩, hb, hy⟩ := hs
    have hval := hv.inv_val
    have hsl : ∃ p, a.eval x = .slice p 0 0 := by
      generalize a.eval x = u at hval
      cases hval
      exact ⟨_, rfl⟩
    obtain ⟨p, hpc⟩ := hsl
    obtain ⟨q1, q2, q3, hrun⟩ := sliceBounds_run (P := P) (isSlice := true) (Nat.le_refl 0) hr h1 h2 h3 hmh hb
    refine ⟨_, run p 0 0 al h _ hpc hrun, ?_⟩
    subst hy
    obtain rfl : m = 0 := by omega
    obtain rfl : h = 0 := by omega
    obtain rfl : al = 0 := by omega
    simp only [ite_self, Nat.sub_self]
    exact .val _ _ (.nils _ _)
  · rename_i id s' o' n hx'
    rw [hx'] at hv
    split at hs
    · cases hs
    · rename_i hc
      have hms : mx'.isSome = false := by cases hq : mx'.isSome <;> simp_all
      have hss : s' = P.cellsOf e := by
        by_cases hq : s' = P.cellsOf e
        · exact hq
        · exact absurd (.inr hq) hc
      subst hss
      have hmx : mx' = none := by cases mx' <;> simp_all
      subst hmx
      have hmx := cOpt_none h3
      subst hmx
      simp only [Option.map_eq_some_iff] at hs
      obtain ⟨⟨al, h, m⟩, hb, hy⟩ := hs
      subst hy
      obtain ⟨p, c, hpc, hnc, hrow⟩ := slice_row hv
      obtain ⟨q1, q2, q3, hrun⟩ := sliceBounds_run (P := P) (isSlice := true) hnc hr h1 h2 h3 hmh hb
      refine ⟨_, run p n c al h _ hpc hrun, ?_⟩
      simp only [Option.isSome_none, Bool.false_eq_true, if_false]
      exact hrow al h q1 (by omega)
  · cases hs

end
end Go.AI
