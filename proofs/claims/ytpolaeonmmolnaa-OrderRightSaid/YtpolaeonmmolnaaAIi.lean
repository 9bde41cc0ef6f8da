/- What only computes: every operation. -/
import Derived.Test.YtpolaeonmmolnaaAIh
namespace Go.AI
set_option linter.unusedVariables false
set_option linter.unusedSimpArgs false
section
variable {P : Program} {J : Id → JI} {F : Nat → Prop} {w : World} {ρ : Opd → AV} {ρp : Bool → Opd → AV} {a : Act}

theorem agg_cells {l : List AV} {v : Value} (h : VRel J F w (.agg l) v) : v.cells.toList.length = l.length ∧ ∀ (j : Nat) y u, l[j]? = some y → v.cells.toList[j]? = some u → VRel J F w y u := h.cells rfl

theorem fieldlike {x : AV} {v : Value} {t : TypeId} {d : TypeDesc} (ht : P.underlying t = some d) (hv : VRel J F w x v) {o : Nat} {y : AV} (h : x.part o (P.cellsOf t) (isAggB P t) = some y) : ∃ vs : List Value, v = .agg vs.toArray ∧ ∃ u, (part t vs.toArray o).run P w = .ok u w ∧ VRel J F w y u := by
  cases x with
  | agg l =>
    simp only [AV.part] at h
    split at h
    · rename_i hb
      obtain ⟨vs, rfl, hl, hr⟩ := hv.toAgg
      refine ⟨vs, rfl, part_cells ht (by omega) (ofCells_rel h ?_)⟩
      exact take_drop_rel ⟨hl, hr⟩ _ _
    · cases h
  | val d =>
    cases d with
    | agg l =>
      simp only [AV.part] at h
      split at h
      · rename_i hb
        obtain ⟨vs, rfl, hl, hr⟩ := hv.inv_val.toAgg
        refine ⟨vs, rfl, part_cells ht (by omega) (ofDCells_rel h ?_)⟩
        exact take_drop_rel ⟨hl, hr⟩ _ _
      · cases h
    | _ => cases h
  | _ => cases h

theorem aggD_rel {x : AV} {v : Value} {ds : List DV} (hv : VRel J F w x v) (h : x.aggD = some ds) : ∃ vs : List Value, v = .agg vs.toArray ∧ cellsRel F w ds vs := by
  cases x with
  | agg l =>
    obtain ⟨vs, rfl, hl, hr⟩ := hv.toAgg
    exact ⟨vs, rfl, datas_rel h ⟨hl, hr⟩⟩
  | val d =>
    cases d with
    | agg l =>
      simp only [AV.aggD, Option.some.injEq] at h
      subst h
      obtain ⟨vs, rfl, hl, hr⟩ := hv.inv_val.toAgg
      exact ⟨vs, rfl, hl, hr⟩
    | _ => cases h
  | _ => cases h

theorem eqs_sound (hr : ORel J F w ρ a) {o : Oper} {op : BinOp} {t yt : TypeId} {x y : Operand} {x' y' : Opd} (ho : o.op = .binOp op t x y yt) (hx : cOpd x = some x') (hy : cOpd y = some y')
    (hg : P.eqGuardType P.depth t = false) (ha : isAggB P t = true) {l : List Nat} (hk : kinds P 20 t = some l) {neg : Bool} (hop : op = if neg then .neq else .eql) {z : AV}
    (hs : semP ρ ρp (.eqs l neg x' y') = some z) : Yields P J F w a o z := by
  simp only [semP] at hs
  split at hs
  · rename_i as bs h1 h2
    simp only [Option.map_eq_some_iff] at hs
    obtain ⟨r, hr', rfl⟩ := hs
    obtain ⟨us, e1, c1⟩ := aggD_rel (hr.ev hx) h1
    obtain ⟨vs, e2, c2⟩ := aggD_rel (hr.ev hy) h2
    have heq := eq_plain 20 t l hk 10000 (by omega) w as bs (.agg us.toArray) (.agg vs.toArray) r (by unfold Holds; rw [if_pos ha]; exact ⟨us, rfl, c1⟩) (by unfold Holds; rw [if_pos ha]; exact ⟨vs, rfl, c2⟩) hr'
    refine ⟨.bool (if neg then !r else r), ?_, .val _ _ (.bool _)⟩
    unfold execOp
    simp only [ho, Sem.run_bind, e1, e2, run_eqGuard_agg w op t x y us.toArray vs.toArray hg, Result.andThen_ok]
    subst hop
    cases neg
    · simp only [Bool.false_eq_true, if_false, run_eql_struct w t, heq, Result.andThen_ok, Sem.run_pure]
    · simp only [if_true, run_neq_struct w t, heq, Result.andThen_ok, Sem.run_pure]
  · cases hs

theorem nil_sound (hr : ORel J F w ρ a) {o : Oper} {op : BinOp} {t e yt : TypeId} {x y : Operand} {x' : Opd} (ho : o.op = .binOp op t x y yt) (hx : cOpd x = some x') (hy : cOpd y = some (.c .nilp)) (ht : P.underlying t = some (.pointer e))
    {neg : Bool} (hop : op = if neg then .neq else .eql) {z : AV} (hs : semP ρ ρp (.eqn neg x') = some z) : Yields P J F w a o z := by
  have hv := hr.ev hx
  have hn := hr.ev hy
  rw [hr.2] at hn
  have hn : a.eval y = .pointer none := by
    generalize a.eval y = u at hn
    cases hn.inv_val
    rfl
  have key : ∀ p : Option Addr, a.eval x = .pointer p → (execOp a.eval o).run P w = .ok (.value (.bool (if neg then p.isSome else p.isNone))) w := by
    intro p hp
    have hq : ∀ u v : Option Addr, (eqGuard op t x y (.pointer u) (.pointer v)).run P w = .ok () w := fun u v => eqGuard_run op t x y (by simp) (by simp)
    have he : (Op.equal t (.pointer p) (.pointer none)).run P w = .ok p.isNone w := by
      exact run_equal_pointer_nil w t p (by simp [Program.pointee, ht])
    unfold execOp
    simp only [ho, Sem.run_bind, hp, hn, hq, Result.andThen_ok]
    subst hop
    cases neg
    · simp only [Bool.false_eq_true, if_false, binOp, Sem.run_bind, he, Result.andThen_ok, Sem.run_pure]
    · simp only [if_true, binOp, Sem.run_bind, he, Result.andThen_ok, Sem.run_pure]
      cases p <;> rfl
  simp only [semP] at hs
  generalize hx' : ρ x' = u at hs hv
  generalize hax : a.eval x = v at hv
  cases hv with
  | val d _ h =>
    cases d with
    | nilp =>
      cases hs
      cases h
      refine ⟨_, key none hax, ?_⟩
      cases neg <;> exact .val _ _ (.bool _)
    | pt cs =>
      cases hs
      obtain ⟨g, o', rfl, _⟩ := pt_drop h
      refine ⟨_, key _ hax, ?_⟩
      cases neg <;> exact .val _ _ (.bool _)
    | _ => cases hs
  | box id i g own s cap h' => cases hs; refine ⟨_, key _ hax, ?_⟩; cases neg <;> exact .val _ _ (.bool _)
  | boxDead id i p h' => cases hs; refine ⟨_, key _ hax, ?_⟩; cases neg <;> exact .val _ _ (.bool _)
  | elt id i j g own s cap h' => cases hs; refine ⟨_, key _ hax, ?_⟩; cases neg <;> exact .val _ _ (.bool _)
  | eltDead id i j p h' => cases hs; refine ⟨_, key _ hax, ?_⟩; cases neg <;> exact .val _ _ (.bool _)
  | _ => cases hs

theorem foff_sound (hr : ORel J F w ρ a) {o : Oper} {t : TypeId} {x : Operand} {f : Nat} {x' : Opd} (ho : o.op = .fieldAddr t x f) (hx : cOpd x = some x') {fs : Array Field} (ht : P.underlying t = some (.struct fs)) {fd : Field}
    (hf : fs[f]? = some fd) (hc : P.cellsOf fd.type ≠ 0) {z : AV} (hs : semP ρ ρp (.foff fd.offset x') = some z) : Yields P J F w a o z := by
  simp only [semP] at hs
  obtain ⟨p, hp, hz⟩ := foff_rel (hr.ev hx) hs
  have hi : ∃ i, P.info? fd.type = some i := by
    unfold Program.cellsOf at hc
    cases hq : P.info? fd.type with
    | none => simp [hq] at hc
    | some i => exact ⟨i, rfl⟩
  obtain ⟨i, hi⟩ := hi
  rw [cellsOf_info hi] at hc
  refine ⟨_, ?_, hz⟩
  unfold execOp
  simp only [ho, hp, Instr.fieldAt, Instr.sureAddr, Sem.run_bind, run_underlying ht, hf, Result.andThen_ok, fieldPlace, Sem.run_pure, run_sizeOf hi, if_neg hc]

theorem aoff_sound (hr : ORel J F w ρ a) {o : Oper} {t e : TypeId} {n : Nat} {x i : Operand} {x' i' : Opd} (ho : o.op = .indexAddr t x i) (hx : cOpd x = some x') (hi : cOpd i = some i') (ht : P.underlying t = some (.array n e)) {ti : TypeInfo}
    (he : P.info? e = some ti) {z : AV} (hs : semP ρ ρp (.aoff n (P.cellsOf e) x' i') = some z) : Yields P J F w a o z := by
  simp only [semP] at hs
  split at hs
  · rename_i m hm
    split at hs
    · rename_i hb
      obtain ⟨k, hk⟩ := num_run hr hi hm
      obtain ⟨p, hp, hz⟩ := foff_rel (hr.ev hx) hs
      refine ⟨_, ?_, hz⟩
      unfold execOp
      have hb' : 0 ≤ m ∧ m < (n : Int) := hb
      simp only [ho, hp, hk, Instr.indexAt, asIntOf, Instr.sureAddr, Sem.run_bind, run_underlying ht, Result.andThen_ok, Sem.run_pure, run_sizeOf he, if_pos hb', cellsOf_info he]
    · cases hs
  · cases hs

theorem soff_sound (hr : ORel J F w ρ a) {o : Oper} {t e : TypeId} {x i : Operand} {x' i' : Opd} (ho : o.op = .indexAddr t x i) (hx : cOpd x = some x') (hi : cOpd i = some i') (ht : P.underlying t = some (.slice e)) {ti : TypeInfo}
    (he : P.info? e = some ti) {z : AV} (hs : semP ρ ρp (.soff (P.cellsOf e) x' i') = some z) : Yields P J F w a o z := by
  have run : ∀ (m : Int) k p n c, a.eval i = .int k m → a.eval x = .slice (some p) n c → 0 ≤ m ∧ m < (n : Int) → (execOp a.eval o).run P w = .ok (.value (.pointer (some (p.add (m.toNat * P.cellsOf e))))) w := by
    intro m k p n c h1 h2 h3
    unfold execOp
    simp only [ho, h1, h2, Instr.indexAt, asIntOf, Sem.run_bind, run_underlying ht, Result.andThen_ok, Sem.run_pure, run_sizeOf he, if_pos h3, cellsOf_info he]
  have hv := hr.ev hx
  simp only [semP] at hs
  split at hs
  · rename_i m hm
    obtain ⟨k, hk⟩ := num_run hr hi hm
    generalize hx' : ρ x' = u at hs hv
    generalize hax : a.eval x = v at hv
    cases hv with
    | val d _ h =>
      cases d with
      | sl s' l =>
        simp only [] at hs
        split at hs
        · rename_i hc
          split at hs
          · rename_i q hq
            cases hs
            cases h with
            | sl0 => simp at hq
            | sl _ _ g o' c vals hs' hlc hsg hF hcell hrep =>
              have hlt : m.toNat < l.length := (List.getElem?_eq_some_iff.1 hq).1
              refine ⟨_, run m k _ _ _ hk hax ⟨hc.2, by omega⟩, ?_⟩
              rw [Addr.add_mid]
              refine .val _ _ (.pt q g _ (fun j => vals m.toNat j) hF ?_ ?_)
              · intro j d hj
                rw [Nat.add_assoc, ← hc.1]
                exact hcell _ _ _ _ hq hj
              · intro j d hj
                exact hrep _ _ _ _ hq hj
          · cases hs
        · cases hs
      | _ => cases hs
    | row id o' n g own s' cap h hc =>
      simp only [] at hs
      split at hs
      · rename_i hb
        cases hs
        refine ⟨_, run m k _ _ _ hk hax hb.2, ?_⟩
        rw [Addr.add_mid, ← hb.1, ← Nat.add_mul]
        have := VRel.elt (J := J) (F := F) (w := w) id (o' + m.toNat) 0 g own s' cap h
        rwa [Nat.add_zero] at this
      · cases hs
    | rowNil id own s' cap p h =>
      simp only [] at hs
      split at hs
      · rename_i hb; omega
      · cases hs
    | rowEnd id o' g own s' cap h ho' p c =>
      simp only [] at hs
      split at hs
      · rename_i hb; omega
      · cases hs
    | rowDead id s' o' n p c h hle hp =>
      simp only [] at hs
      split at hs
      · rename_i hb
        cases hs
        have : ∃ q, p = some q := by
          cases p with
          | none => exact absurd rfl (hp (by omega))
          | some q => exact ⟨q, rfl⟩
        obtain ⟨q, rfl⟩ := this
        exact ⟨_, run m k _ _ _ hk hax hb.2, .eltDead _ _ _ _ h⟩
      · cases hs
    | _ => cases hs
  · cases hs

end
end Go.AI
