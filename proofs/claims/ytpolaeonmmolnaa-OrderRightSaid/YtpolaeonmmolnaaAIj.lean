/- What only computes: the theorem over all such operations. -/
import Derived.Test.YtpolaeonmmolnaaAIi
namespace Go.AI
set_option linter.unusedVariables false
set_option linter.unusedSimpArgs false
section
variable {P : Program} {J : Id → JI} {F : Nat → Prop} {w : World} {ρ : Opd → AV} {ρp : Bool → Opd → AV} {a : Act}

theorem len_sound (hr : ORel J F w ρ a) {x : Operand} {x' : Opd} (hx : cOpd x = some x') {z : AV} (hs : semP ρ ρp (.len x') = some z) :
    ∃ p n c, a.eval x = .slice p n c ∧ VRel J F w z (.int .i64 n) := by
  have hv := hr.ev hx
  simp only [semP] at hs
  generalize hx' : ρ x' = u at hs hv
  generalize a.eval x = v at hv ⊢
  cases hv with
  | val d _ h =>
    cases d with
    | sl s l =>
      cases hs
      cases h with
      | sl0 => exact ⟨_, _, _, rfl, .val _ _ (.int _ _)⟩
      | sl => exact ⟨_, _, _, rfl, .val _ _ (.int _ _)⟩
    | nils s => cases hs; cases h; exact ⟨_, _, _, rfl, .val _ _ (.int _ _)⟩
    | _ => cases hs
  | row => cases hs; exact ⟨_, _, _, rfl, .val _ _ (.int _ _)⟩
  | rowNil => cases hs; exact ⟨_, _, _, rfl, .val _ _ (.int _ _)⟩
  | rowEnd => cases hs; exact ⟨_, _, _, rfl, .val _ _ (.int _ _)⟩
  | rowDead => cases hs; exact ⟨_, _, _, rfl, .val _ _ (.int _ _)⟩
  | _ => cases hs

theorem minmax_sound (hr : ORel J F w ρ a) {xs : List Operand} {x : Opd} {l : List Opd} (hc : cOpds xs = some (x :: l)) {gt : Bool} {z : AV} (hs : semP ρ ρp (.mnx gt x l) = some z) (at_ : Array TypeId) (ty : TypeId) :
    ∃ v, ((if gt = true then Builtin.max_ else Builtin.min_) at_ ty (xs.map a.eval).toArray).run P w = .ok v w ∧ VRel J F w z v := by
  obtain ⟨hl, hrel⟩ := cOpds_rel hr hc
  cases xs with
  | nil => simp at hl
  | cons y ys =>
    simp only [semP] at hs
    split at hs
    · rename_i k n hx
      simp only [Option.map_eq_some_iff] at hs
      obtain ⟨r, hm, rfl⟩ := hs
      have h0 := hrel 0 y x rfl rfl
      rw [hx] at h0
      have h0 := h0.int
      refine ⟨.int k r, ?_, .val _ _ (.int _ _)⟩
      have := minmax_run (P := P) (J := J) (F := F) (w := w) gt (k := k) (l := l.map ρ) (vs := ys.map a.eval) ⟨by simpa using hl.symm, ?_⟩ hm
      · cases gt
        · simpa [Builtin.min_, h0] using this
        · simpa [Builtin.max_, h0] using this
      · intro j u v h1 h2
        rw [List.getElem?_map] at h1 h2
        cases hu : l[j]? with
        | none => rw [hu] at h1; simp at h1
        | some p =>
          cases hv : ys[j]? with
          | none => rw [hv] at h2; simp at h2
          | some q =>
            rw [hu] at h1; rw [hv] at h2
            simp at h1 h2
            subst h1; subst h2
            exact hrel (j + 1) q p (by simpa using hv) (by simpa using hu)
    · cases hs

theorem idxS_sound (hr : ORel J F w ρ a) {o : Oper} {t : TypeId} {x i : Operand} {x' i' : Opd} (ho : o.op = .index t x i) (hx : cOpd x = some x') (hi : cOpd i = some i') (ht : P.underlying t = some .string) {z : AV}
    (hs : semP ρ ρp (.idxS x' i') = some z) : Yields P J F w a o z := by
  simp only [semP] at hs
  split at hs
  · rename_i s n h1 h2
    split at hs
    · rename_i hb
      cases hs
      have hv := hr.ev hx
      rw [h1] at hv
      have hv := hv.str
      obtain ⟨k, hk⟩ := num_run hr hi h2
      refine ⟨_, ?_, .val _ _ (.int _ _)⟩
      unfold execOp
      have hlt : n.toNat < s.size := by omega
      have hget : s[n.toNat]? = some (s.data.toList.getD n.toNat 0) := by
        have e : s[n.toNat]? = some (s[n.toNat]'hlt) := getElem?_pos s n.toNat hlt
        rw [e, List.getD_eq_getElem?_getD, List.getElem?_eq_getElem (by simpa using hlt)]
        rfl
      simp only [ho, hv, hk, Instr.index, asIntOf, Sem.run_bind, run_underlying ht, Result.andThen_ok, Sem.run_pure, if_pos hb.1, hget]
    · cases hs
  · cases hs

theorem slS_sound (hr : ORel J F w ρ a) {o : Oper} {t : TypeId} {x : Operand} {lo hi mx : Option Operand} {x' : Opd} {lo' hi' : Option Opd} (ho : o.op = .slice t x lo hi mx) (hx : cOpd x = some x')
    (h1 : cOpt lo = some lo') (h2 : cOpt hi = some hi') (h3 : mx = none) (ht : P.underlying t = some .string) {z : AV} (hs : semP ρ ρp (.slS x' lo' hi') = some z) : Yields P J F w a o z := by
  subst h3
  simp only [semP] at hs
  split at hs
  · rename_i s hx'
    simp only [Option.map_eq_some_iff] at hs
    obtain ⟨⟨l, h, m⟩, hb, rfl⟩ := hs
    have hv := hr.ev hx
    rw [hx'] at hv
    have hv := hv.str
    obtain ⟨q1, q2, q3, hrun⟩ := sliceBounds_run (P := P) (w := w) (F := F) (isSlice := false) (Nat.le_refl _) hr h1 h2 (mx := none) (mx' := none) rfl (by simp) hb
    refine ⟨_, ?_, .val _ _ (.str _)⟩
    unfold execOp
    simp only [Option.map_none] at hrun
    simp only [ho, hv, Instr.sliceAt, Instr.slice, Sem.run_bind, run_underlying ht, Result.andThen_ok, Option.map_none, Option.isSome_none, Bool.false_eq_true, if_false, hrun, Sem.run_pure]
  · cases hs

theorem chk_sound (hr : ORel J F w ρ a) {o : Oper} {x : Operand} {x' : Opd} (ho : o.op = .nilCheck x) (hx : cOpd x = some x') {z : AV} (hs : semP ρ ρp (.chk x') = some z) : Yields P J F w a o z := by
  have hv := hr.ev hx
  have key : ∀ v, a.eval x = v → (∀ p, v = .pointer p → p ≠ none) → v ≠ .nilIface → v ≠ .nilFunc → (∀ n f c, v ≠ .func (.method n) f c) → (execOp a.eval o).run P w = .ok (.value v) w := by
    intro v h h1 h2 h3 h4
    unfold execOp
    simp only [ho, h]
    cases v with
    | pointer p =>
      cases p with
      | none => exact absurd rfl (h1 none rfl)
      | some p => rfl
    | nilIface => exact absurd rfl h2
    | nilFunc => exact absurd rfl h3
    | func fn f c =>
      cases fn with
      | method n => exact absurd rfl (h4 n f c)
      | _ => rfl
    | _ => rfl
  simp only [semP] at hs
  generalize hx' : ρ x' = u at hs hv
  generalize hax : a.eval x = v at hv
  cases hv with
  | val d _ h =>
    cases d with
    | pt cs =>
      cases hs
      obtain ⟨g, o', rfl, _⟩ := pt_drop h
      exact ⟨_, key _ hax (by simp) (by simp) (by simp) (by simp), .val _ _ h⟩
    | fn f l =>
      cases hs
      cases h with
      | fn _ _ vs hl hh => exact ⟨_, key _ hax (by simp) (by simp) (by simp) (by simp), .val _ _ (.fn f l vs hl hh)⟩
    | _ => cases hs
  | box id i g own s cap h' => cases hs; exact ⟨_, key _ hax (by simp) (by simp) (by simp) (by simp), .box _ _ _ _ _ _ h'⟩
  | boxDead id i p h' => cases hs; exact ⟨_, key _ hax (by simp) (by simp) (by simp) (by simp), .boxDead _ _ _ h'⟩
  | elt id i j g own s cap h' => cases hs; exact ⟨_, key _ hax (by simp) (by simp) (by simp) (by simp), .elt _ _ _ _ _ _ _ h'⟩
  | eltDead id i j p h' => cases hs; exact ⟨_, key _ hax (by simp) (by simp) (by simp) (by simp), .eltDead _ _ _ _ h'⟩
  | clo f caps vs hl hh => cases hs; exact ⟨_, key _ hax (by simp) (by simp) (by simp) (by simp), .clo _ _ _ hl hh⟩
  | _ => cases hs

theorem ext_sound (hr : ORel J F w ρ a) {o : Oper} {x : Operand} {x' : Opd} {i : Nat} (ho : o.op = .extract x i) (hx : cOpd x = some x') {z : AV} (hs : semP ρ ρp (.ext x' i) = some z) : Yields P J F w a o z := by
  have hv := hr.ev hx
  simp only [semP] at hs
  generalize hx' : ρ x' = u at hs hv
  generalize hax : a.eval x = v at hv
  have run : ∀ (vs : List Value) v, a.eval x = .tuple vs.toArray → vs[i]? = some v → (execOp a.eval o).run P w = .ok (.value v) w := by
    intro vs v h1 h2
    unfold execOp
    simp only [ho, h1, Instr.extract, List.getElem?_toArray, h2]
    rfl
  cases hv with
  | val d _ h =>
    cases d with
    | tup l =>
      simp only [Option.map_eq_some_iff] at hs
      obtain ⟨d, hd, rfl⟩ := hs
      cases h with
      | tup _ vs hl hh =>
        have hi : i < vs.length := by rw [hl]; exact (List.getElem?_eq_some_iff.1 hd).1
        exact ⟨vs[i], run vs _ hax (List.getElem?_eq_getElem hi), .val _ _ (hh i d _ hd (List.getElem?_eq_getElem hi))⟩
    | _ => cases hs
  | tup l vs hl hh =>
    have hi : i < vs.length := by rw [hl]; exact (List.getElem?_eq_some_iff.1 hs).1
    exact ⟨vs[i], run vs _ hax (List.getElem?_eq_getElem hi), hh i z _ hs (List.getElem?_eq_getElem hi)⟩
  | _ => cases hs

/-- **An operation that only computes yields what the abstract one says, and leaves the world alone.** -/
theorem pure_sound (hr : ORel J F w ρ a) (hp : ∀ b, b = true → ORel J F w (ρp b) a) {o : Oper} {p : POp} (hc : compP P o = some p) {z : AV} (hs : semP ρ ρp p = some z) : Yields P J F w a o z := by
  unfold compP at hc
  split at hc
  · -- move
    rename_i x ho
    simp only [Option.map_eq_some_iff] at hc
    obtain ⟨x', hx, rfl⟩ := hc
    simp only [semP, Option.some.injEq] at hs
    subst hs
    exact ⟨a.eval x, by unfold execOp; simp only [ho]; rfl, cOpdT_of hx hr⟩
  · rename_i x ho
    simp only [Option.map_eq_some_iff] at hc
    obtain ⟨x', hx, rfl⟩ := hc
    simp only [semP, Option.some.injEq] at hs
    subst hs
    exact ⟨a.eval x, by unfold execOp; simp only [ho]; rfl, cOpdT_of hx hr⟩
  · -- pick
    rename_i c x y ho
    split at hc
    · cases hc
      rename_i c' x' y' h1 h2 h3
      simp only [semP] at hs
      split at hs
      · rename_i t ht
        have hv := hr.ev h1
        rw [ht] at hv
        have hv := hv.bool
        cases hs
        refine ⟨_, ?_, pick_rel (fun e => (hp _ e).ev h2) (fun e => (hp _ (by rw [e]; rfl)).ev h3)⟩
        unfold execOp
        simp only [ho, hv, asBool, Sem.run_bind, Sem.run_pure, Result.andThen_ok]
      · cases hs
    · cases hc
  · -- binOp
    rename_i op t x y yt ho
    split at hc
    · rename_i x' y' hx hy
      have bin : ∀ {u : Opd}, some (POp.bin op x' y') = some p → Yields P J F w a o z := by
        intro _ hpp
        cases hpp
        simp only [semP] at hs
        split at hs
        · rename_i d1 d2 h1 h2
          simp only [Option.map_eq_some_iff] at hs
          obtain ⟨r, hb, rfl⟩ := hs
          have v1 := hr.ev hx
          have v2 := hr.ev hy
          rw [h1] at v1
          rw [h2] at v2
          obtain ⟨g, u, hu, hr'⟩ := bin_sound (P := P) (t := t) v1.inv_val v2.inv_val hb
          exact yields_of (s := do eqGuard op t x y (a.eval x) (a.eval y); binOp op t (a.eval x) (a.eval y)) (by unfold execOp; simp only [ho]) (by rw [Sem.run_bind, g x y]; exact hu) (.val _ _ hr')
        · cases hs
      have eqb : ∀ neg, some (POp.eqb neg x' y') = some p → P.underlying t = some .bool → op = (if neg then .neq else .eql) → Yields P J F w a o z := by
        intro neg hpp ht hop
        cases hpp
        simp only [semP] at hs
        split at hs
        · rename_i b c h1 h2
          cases hs
          have v1 := hr.ev hx
          have v2 := hr.ev hy
          rw [h1] at v1
          rw [h2] at v2
          have v1 := v1.bool
          have v2 := v2.bool
          refine yields_of (s := do eqGuard op t x y (a.eval x) (a.eval y); binOp op t (a.eval x) (a.eval y)) (v := .bool (if neg then b != c else b == c)) (by unfold execOp; simp only [ho]) ?_ (.val _ _ (.bool _))
          rw [v1, v2, Sem.run_bind, eqGuard_run op t x y (by simp) (by simp), Result.andThen_ok]
          subst hop
          cases neg
          · simp only [Bool.false_eq_true, if_false, binOp, Sem.run_bind, run_equal_bool w t b c ht, Result.andThen_ok, Sem.run_pure]
          · simp only [if_true, binOp, Sem.run_bind, run_equal_bool w t b c ht, Result.andThen_ok, Sem.run_pure]; rfl
        · cases hs
      have eqs : ∀ l neg, some (POp.eqs l neg x' y') = some p → P.eqGuardType P.depth t = false → isAggB P t = true → kinds P 20 t = some l → op = (if neg then .neq else .eql) → Yields P J F w a o z := by
        intro l neg hpp hg ha hk hop
        cases hpp
        exact eqs_sound hr ho hx hy hg ha hk hop hs
      split at hc
      · exact bin (u := x') hc
      · exact bin (u := x') hc
      · rename_i ht
        split at hc
        · exact eqb false hc ht rfl
        · exact eqb true hc ht rfl
        · cases hc
      · rename_i fs ht
        split at hc
        · cases hc
        · rename_i hg
          have hg : P.eqGuardType P.depth t = false := by simpa using hg
          split at hc
          · exact eqs _ false hc hg (by simp [isAggB, ht]) (by assumption) rfl
          · exact eqs _ true hc hg (by simp [isAggB, ht]) (by assumption) rfl
          · cases hc
      · rename_i n e ht
        split at hc
        · cases hc
        · rename_i hg
          have hg : P.eqGuardType P.depth t = false := by simpa using hg
          split at hc
          · exact eqs _ false hc hg (by simp [isAggB, ht]) (by assumption) rfl
          · exact eqs _ true hc hg (by simp [isAggB, ht]) (by assumption) rfl
          · cases hc
      · rename_i e ht
        split at hc
        · cases hc; exact nil_sound hr ho hx hy ht (neg := false) rfl hs
        · cases hc; exact nil_sound hr ho hx hy ht (neg := true) rfl hs
        · cases hc
      · cases hc
    · cases hc
  · -- unOp
    rename_i op t x ho
    simp only [Option.map_eq_some_iff] at hc
    obtain ⟨x', hx, rfl⟩ := hc
    have hv := hr.ev hx
    simp only [semP] at hs
    split at hs
    · rename_i d hd
      simp only [Option.map_eq_some_iff] at hs
      obtain ⟨r, h2, rfl⟩ := hs
      rw [hd] at hv
      obtain ⟨u, hu, hr'⟩ := un_sound (P := P) hv.inv_val h2
      exact yields_of (by unfold execOp; simp only [ho]) hu (.val _ _ hr')
    · cases hs
  · -- convert
    rename_i src dst x ho
    split at hc
    · cases hc
      rename_i x' k' k hx h1 h2
      simp only [semP] at hs
      split at hs
      · rename_i k0 n hn
        cases hs
        have hv := hr.ev hx
        rw [hn] at hv
        have hv := hv.int
        exact yields_of (s := convert src dst (a.eval x)) (by unfold execOp; simp only [ho]) (by rw [hv]; exact conv_sound h1 h2) (.val _ _ (.int _ _))
      · cases hs
    · cases hc
  · -- build
    rename_i t ps ho
    split at hc
    · rename_i z0 fs hz ht
      split at hc
      · rename_i places hpl
        simp only [Option.map_eq_some_iff] at hc
        obtain ⟨qs, hq, rfl⟩ := hc
        refine build_sound hr ho hz hq hs ?_
        intro cells cs hf zv hzv hzc
        subst hzc
        have hf' : Instr.fill (fun x => places[x]?) zv.cells ((ps.map fun (i, x) => (i, a.eval x)).toList) = some cells := by simpa using hf
        simp only [Instr.build, Sem.run_bind, hzv, Result.andThen_ok, run_underlying ht]
        simp [Array.mapM_eq_mapM_toList, run_places w _ _ hpl, hf]
      · cases hc
    · rename_i z0 n e hz ht
      split at hc
      · cases hc
      · rename_i hie
        simp only [Option.map_eq_some_iff] at hc
        obtain ⟨qs, hq, rfl⟩ := hc
        refine build_sound hr ho hz hq hs ?_
        intro cells cs hf zv hzv hzc
        subst hzc
        have : ∃ i, P.info? e = some i := by
          cases h : P.info? e with
          | none => simp [h] at hie
          | some i => exact ⟨i, rfl⟩
        obtain ⟨i, hi⟩ := this
        rw [cellsOf_info hi] at hf
        have hf' : Instr.fill (fun x => some (x * i.size, i.size)) zv.cells ((ps.map fun (i, x) => (i, a.eval x)).toList) = some cells := by simpa using hf
        simp only [Instr.build, Sem.run_bind, hzv, Result.andThen_ok, run_underlying ht, run_sizeOf hi]
        simp [hf]
    · cases hc
  · -- field
    rename_i t x f ho
    split at hc
    · rename_i x' fs hx ht
      split at hc
      · rename_i fd hf
        split at hc
        · rename_i d hd
          cases hc
          simp only [semP] at hs
          obtain ⟨vs, hvs, u, hu, hz⟩ := fieldlike hd (hr.ev hx) hs
          refine ⟨u, ?_, hz⟩
          unfold execOp
          simp only [ho, hvs, Instr.field, asAgg, Sem.run_bind, run_underlying ht, hf, Result.andThen_ok, Sem.run_pure, hu]
        · cases hc
      · cases hc
    · cases hc
  · -- index
    rename_i t x i ho
    split at hc
    · rename_i x' i' hx hi ht
      cases hc
      exact idxS_sound hr ho hx hi ht hs
    · rename_i x' i' n e hx hi ht
      split at hc
      · rename_i d hd
        cases hc
        simp only [semP] at hs
        split at hs
        · rename_i m hm
          split at hs
          · rename_i hb
            obtain ⟨k, hk⟩ := num_run hr hi hm
            obtain ⟨vs, hvs, u, hu, hz⟩ := fieldlike hd (hr.ev hx) hs
            obtain ⟨ie, hie⟩ := info_of_underlying hd
            refine ⟨u, ?_, hz⟩
            unfold execOp
            rw [cellsOf_info hie] at hu
            simp only [ho, hvs, hk, Instr.index, asIntOf, Sem.run_bind, run_underlying ht, Result.andThen_ok, Sem.run_pure, if_pos hb, run_sizeOf hie, hu]
          · cases hs
        · cases hs
      · cases hc
    · cases hc
  · -- slice
    rename_i t x lo hi mx ho
    split at hc
    · rename_i x' lo' hi' mx' e hx h1 h2 h3 ht
      split at hc
      · cases hc
      · rename_i hmh
        split at hc
        · rename_i ti hti
          cases hc
          exact slice_sound hr ho hx h1 h2 h3 ht hti (by simpa using hmh) hs
        · cases hc
    · rename_i x' lo' hi' hx h1 h2 h3 ht
      cases hc
      exact slS_sound hr ho hx h1 h2 (cOpt_none h3) ht hs
    · cases hc
  · -- fieldAddr
    rename_i t x f ho
    split at hc
    · rename_i x' fs hx ht
      split at hc
      · rename_i fd hf
        split at hc
        · cases hc
        · cases hc
          exact foff_sound hr ho hx ht hf (by assumption) hs
      · cases hc
    · cases hc
  · -- indexAddr
    rename_i t x i ho
    split at hc
    · rename_i x' i' n e hx hi ht
      split at hc
      · rename_i ti hti
        cases hc
        exact aoff_sound hr ho hx hi ht hti hs
      · cases hc
    · rename_i x' i' e hx hi ht
      split at hc
      · rename_i ti hti
        cases hc
        exact soff_sound hr ho hx hi ht hti hs
      · cases hc
    · cases hc
  · -- nilCheck
    rename_i x ho
    simp only [Option.map_eq_some_iff] at hc
    obtain ⟨x', hx, rfl⟩ := hc
    exact chk_sound hr ho hx hs
  · -- extract
    rename_i x i ho
    simp only [Option.map_eq_some_iff] at hc
    obtain ⟨x', hx, rfl⟩ := hc
    exact ext_sound hr ho hx hs
  · -- makeFunc
    rename_i f first caps ho
    split at hc
    · rename_i hfe
      simp only [Option.map_eq_some_iff] at hc
      obtain ⟨ys, hy, rfl⟩ := hc
      simp only [semP, Option.some.injEq] at hs
      subst hs
      obtain ⟨hl, hrel⟩ := cOpds_rel hr hy
      refine ⟨.func (.func f) #[] (caps.toList.map a.eval).toArray, ?_, ?_⟩
      · unfold execOp
        have : first = #[] := by simpa using hfe
        have e : caps.map a.eval = (caps.toList.map a.eval).toArray := by rw [← List.map_toArray, Array.toArray_toList]
        simp only [ho, this, Instr.makeFunc, e]
        simp
      · refine .clo f _ _ (by simpa using hl.symm) ?_
        intro j u v h1 h2
        rw [List.getElem?_map] at h1 h2
        cases hu : ys[j]? with
        | none => rw [hu] at h1; simp at h1
        | some p =>
          cases hv : caps.toList[j]? with
          | none => rw [hv] at h2; simp at h2
          | some q =>
            rw [hu] at h1; rw [hv] at h2
            simp only [Option.map_some, Option.some.injEq] at h1 h2
            subst h1; subst h2
            exact hrel j q p hv hu
    · cases hc
  · -- len
    rename_i args ats ho
    split at hc
    · rename_i x t hx0 ht0
      have hargs : args = #[x] := by cases args; simp_all
      have hats : ats = #[t] := by cases ats; simp_all
      subst hargs
      subst hats
      split at hc
      · rename_i x' hx ht
        cases hc
        simp only [semP] at hs
        split at hs
        · rename_i s hx'
          cases hs
          have hv := hr.ev hx
          rw [hx'] at hv
          have hv := hv.str
          refine ⟨_, ?_, .val _ _ (.int _ _)⟩
          unfold execOp
          simp [ho, resolve, invoke, builtin, Builtin.len_, hv, run_underlying ht, goInt]
        · cases hs
      · rename_i x' e hx ht
        cases hc
        obtain ⟨p, n, c, h1, h2⟩ := len_sound hr hx hs
        refine ⟨_, ?_, h2⟩
        unfold execOp
        simp [ho, resolve, invoke, builtin, Builtin.len_, h1, run_underlying ht, goInt]
      · rename_i x' n e hx ht
        cases hc
        simp only [semP, Option.some.injEq] at hs
        subst hs
        refine ⟨_, ?_, .val _ _ (.int _ _)⟩
        unfold execOp
        simp [ho, resolve, invoke, builtin, Builtin.len_, run_underlying ht, goInt]
      · cases hc
    · cases hc
  · rename_i args ats ho
    split at hc
    · cases hc
      rename_i x l hx
      obtain ⟨v, hv, hz⟩ := minmax_sound (P := P) hr hx hs ats o.type
      refine ⟨v, ?_, hz⟩
      unfold execOp
      simp only [Bool.false_eq_true, if_false] at hv
      have e : args.map a.eval = (args.toList.map a.eval).toArray := by rw [← List.map_toArray, Array.toArray_toList]
      simp only [ho, resolve, invoke, builtin, Sem.run_bind, Sem.run_pure, Result.andThen_ok, e, hv]
    · cases hc
  · rename_i args ats ho
    split at hc
    · cases hc
      rename_i x l hx
      obtain ⟨v, hv, hz⟩ := minmax_sound (P := P) hr hx hs ats o.type
      refine ⟨v, ?_, hz⟩
      unfold execOp
      simp only [if_true] at hv
      have e : args.map a.eval = (args.toList.map a.eval).toArray := by rw [← List.map_toArray, Array.toArray_toList]
      simp only [ho, resolve, invoke, builtin, Sem.run_bind, Sem.run_pure, Result.andThen_ok, e, hv]
    · cases hc
  · cases hc

end
end Go.AI
