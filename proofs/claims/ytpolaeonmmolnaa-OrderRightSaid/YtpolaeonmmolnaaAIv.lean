/- What writes; any operation. -/
import Derived.Test.YtpolaeonmmolnaaAIu
namespace Go.AI
set_option linter.unusedVariables false
set_option linter.unusedSimpArgs false

def compW (P : Program) (o : Oper) : Option WOp :=
  match o.op with
  | .convert src dst x => match cOpd x, P.underlying src with
    | some x', some (.slice e) => (match P.underlying e with | some (.int .u8) => if src = dst then some (.s2s x') else none | _ => none)
    | _, _ => none
  | .store t x v => match cOpd x, cOpdT P t v, P.info? t with
    | some x', some v', some i => some (.store i.size x' v')
    | _, _, _ => none
  | .call c => match c.callee, c.args.toList, c.argTypes.toList with
    | .builtin .append, [x, y], [t, u] => match P.underlying t, P.underlying u with
      | some (.slice e), some du => match cOpdT P t x, cOpdT P u y, P.info? e, zeros P e with
        | some x', some y', some i, some z => if z.length = i.size ∧ c.args.size = 2 ∧ c.argTypes.size = 2 then (match du with
          | .slice _ => some (.app i.size i.bytes false x' y')
          | .string => if i.size = 1 then some (.app i.size i.bytes true x' y') else none
          | _ => none) else none
        | _, _, _, _ => none
      | _, _ => none
    | _, _, _ => none
  | _ => none

def compOp (P : Program) (o : Oper) : Option AOp :=
  match compP P o, compR P o, compA P o, compW P o with
  | some p, _, _, _ => some (.p p)
  | none, some p, _, _ => some (.r p)
  | none, none, some p, _ => some (.a p)
  | none, none, none, some p => some (.w p)
  | _, _, _, _ => none

section
variable {P : Program} {J : Id → JI} {F : Nat → Prop} {w : World} {H : Hp} {ρ : Opd → AV} {ρp : Bool → Opd → AV} {a : Act} {C : FuncId → Con}

theorem exec_store {o : Oper} {t : TypeId} {x v : Operand} (ho : o.op = .store t x v) {w' : World} (h : (Instr.storeAt t (a.eval x) (a.eval v)).run P w = .ok () w') : (execOp a.eval o).run P w = .ok .skip w' := by
  unfold execOp
  simp only [ho, Sem.run_bind, h, Result.andThen_ok, Sem.run_pure]

theorem store_sound (hH : HRel J F w H) (hr : ORel J F w ρ a) {o : Oper} {t : TypeId} {i : TypeInfo} {x v : Operand} {x' v' : Opd} (ho : o.op = .store t x v) (hx : cOpd x = some x') (hv : cOpdT P t v = some v') (hi : P.info? t = some i)
    {ns id : Id} {r : AV} {H' : Hp} (hs : semW C H ρ ns id (.store i.size x' v') = some (r, H')) : Does P J F w a o r H' := by
  have hvx := hr.ev hx
  have hvv := cOpdT_of hv hr
  simp only [semW] at hs
  split at hs
  · rename_i cs hcs
    obtain ⟨hl, hrel⟩ := hvv.cells hcs
    split at hs
    · rename_i hn
      obtain ⟨hn, hsg⟩ := hn
      split at hs
      · rename_i b o' hxb
        rw [hxb] at hvx
        split at hs
        · rename_i cells hb
          split at hs
          · rename_i hfit
            simp only [Option.some.injEq, Prod.mk.injEq] at hs
            obtain ⟨rfl, rfl⟩ := hs
            obtain ⟨w', h1, h2, h3⟩ := store_box hH hi hvx hb hl hrel hsg hn (by omega)
            exact does_skip (exec_store ho h1) h2 h3
          · cases hs
        · cases hs
      · rename_i b k o' hxb
        rw [hxb] at hvx
        split at hs
        · rename_i s es ds ids hb hd
          split at hs
          · rename_i es' H1 hst hfix
            split at hs
            · cases hs
            · rename_i hno
              simp only [Option.some.injEq, Prod.mk.injEq] at hs
              obtain ⟨rfl, rfl⟩ := hs
              have hno : ids.contains b = false := by cases hh : ids.contains b <;> simp_all
              obtain ⟨hdl, hdr⟩ := (argD_rel hH 99).2 _ _ _ hd
              obtain ⟨J1, F1, hH1, he1, hle⟩ := fix_sound hH hfix
              have hb1 : H1 b = some (.row s es) := by rw [fix_other hfix hno]; exact hb
              have hone : ∀ (j : Nat) u, (a.eval v).cells.toList[j]? = some u → u.oneCell' = true := by
                intro j u hu
                have hj : j < cs.length := by rw [← hl]; exact (List.getElem?_eq_some_iff.1 hu).1
                exact (hrel j _ u (List.getElem?_eq_getElem hj) hu).one (List.all_eq_true.1 hsg _ (List.getElem_mem hj))
              obtain ⟨w', h1, h2, h3⟩ := store_elt (ds := ds) hH1 hi (hvx.ext hH he1) hb1 ⟨by rw [hl, hdl], fun j d u q1 q2 => by
                have hj : j < cs.length := by rw [← hl]; exact (List.getElem?_eq_some_iff.1 q2).1
                exact (hdr j _ d u (List.getElem?_eq_getElem hj) q1 (hrel j _ u (List.getElem?_eq_getElem hj) q2)).mono hle (fun _ _ => rfl)⟩ hone (by rw [hdl, hn]) hst
              exact does_skip (exec_store ho h1) h2 (he1.trans h3)
          · cases hs
        · cases hs
      · cases hs
    · cases hs
  · cases hs

theorem app_sound (hH : HRel J F w H) (hr : ORel J F w ρ a) {o : Oper} {c : Call} (ho : o.op = .call c) (hcal : c.callee = .builtin .append) {x y : Operand} {t u e : TypeId} {du : TypeDesc} (hargs : c.args = #[x, y]) (hats : c.argTypes = #[t, u])
    (ht : P.underlying t = some (.slice e)) (hu : P.underlying u = some du) {x' y' : Opd} (hx : cOpdT P t x = some x') (hy : cOpdT P u y = some y') {i : TypeInfo} (hi : P.info? e = some i) {z : List DV} (hz : zeros P e = some z) (hzl : z.length = i.size)
    {str : Bool} (hdu : (str = false ∧ ∃ e', du = .slice e') ∨ ((str = true ∧ i.size = 1) ∧ du = .string)) {ns id : Id} {r : AV} {H' : Hp} (hs : semW C H ρ ns id (.app i.size i.bytes str x' y') = some (r, H')) : Does P J F w a o r H' := by
  have hvx := cOpdT_of hx hr
  have hvy := cOpdT_of hy hr
  simp only [semW] at hs
  split at hs
  · rename_i ys hys
    have hsrc : ∃ news, Src P F w i.size ys (a.eval y) news := by
      rcases hdu with ⟨rfl, _⟩ | ⟨⟨rfl, h1⟩, _⟩
      · exact elems_src hH hvy hys
      · simp only [if_true] at hys
        split at hys
        · rename_i b hb
          rw [hb] at hvy
          rw [hvy.str]
          cases hys
          rw [h1]
          exact ⟨_, str_src b⟩
        · cases hys
    obtain ⟨news, hsrc⟩ := hsrc
    split at hs
    · cases hs
    · rename_i hid
      have hid : H id = none := by cases hh : H id <;> simp_all
      obtain ⟨z0, hz0, hz1⟩ : ∃ v, i.zero = some v ∧ True := by
        unfold zeros at hz
        rw [hi] at hz
        cases hq : i.zero with
        | none => simp [hq] at hz
        | some v => exact ⟨v, rfl, trivial⟩
      obtain ⟨v', w', J', h1, h2, h3, h4⟩ := append_sound (ty := o.type) hH ht hi hz0 hz hzl hu (hdu.imp (fun h => h.2) (fun h => h.2)) hid hvx hsrc hs
      refine does_run ?_ h2 h3 h4
      unfold execOp resolve
      simp only [ho, hcal, hargs, hats, Sem.run_bind, Sem.run_pure, Result.andThen_ok, invoke, builtin]
      have e1 : (#[x, y] : Array Operand).map a.eval = #[a.eval x, a.eval y] := by simp
      rw [e1, h1]
      rfl
  · cases hs

theorem Rep.cells {F' : Nat → Prop} {w' : World} {d : DV} {v : Value} (h : Rep F w d v) (hF : ∀ g, F g → F' g) (hw : ∀ a : Addr, w'.cell? a = w.cell? a) : Rep F' w' d v := by
  induction h with
  | int k n => exact .int k n
  | bool b => exact .bool b
  | str s => exact .str s
  | sl0 s a c => exact .sl0 s a c
  | nils s a => exact .nils s a
  | sl s l g o c vals hs hc h1 hg hcell _ ih => exact .sl s l g o c vals hs hc h1 (hF g hg) (fun i j e d h1 h2 => by rw [hw]; exact hcell i j e d h1 h2) ih
  | pt cells g o vals hg hcell _ ih => exact .pt cells g o vals (hF g hg) (fun j d h1 => by rw [hw]; exact hcell j d h1) ih
  | nilp => exact .nilp
  | nili => exact .nili
  | ifc t d v _ ih => exact .ifc t d v ih
  | fn f caps vs hl _ ih => exact .fn f caps vs hl ih
  | nilf => exact .nilf
  | agg l vs hl _ ih => exact .agg l vs hl ih
  | tup l vs hl _ ih => exact .tup l vs hl ih

theorem VRel.cellsJ {J' : Id → JI} {F' : Nat → Prop} {w' : World} {x : AV} {v : Value} (h : VRel J F w x v) (hJ : ∀ id, (J id).le (J' id)) (hF : ∀ g, F g → F' g) (hw : ∀ a : Addr, w'.cell? a = w.cell? a) : VRel J' F' w' x v := by
  induction h with
  | val d v h => exact .val d v (h.cells hF hw)
  | box id o g own s cap h => exact (JI.le_live (hJ id) h).elim (fun h => .boxDead _ _ _ h) (fun ⟨_, h⟩ => .box _ _ _ _ _ _ h)
  | boxDead id o p h => exact .boxDead _ _ _ (JI.le_dead (hJ id) h)
  | elt id i o g own s cap h => exact (JI.le_live (hJ id) h).elim (fun h => .eltDead _ _ _ _ h) (fun ⟨_, h⟩ => .elt _ _ _ _ _ _ _ h)
  | eltDead id i o p h => exact .eltDead _ _ _ _ (JI.le_dead (hJ id) h)
  | row id o len g own s cap h hc => exact (JI.le_live (hJ id) h).elim (fun h => .rowDead _ _ _ _ _ _ h (by omega) (by simp)) (fun ⟨_, h⟩ => .row _ _ _ _ _ _ _ h hc)
  | rowNil id own s cap a h => exact (JI.le_live (hJ id) h).elim (fun h => .rowDead _ _ _ _ _ _ h (Nat.le_refl _) (by simp)) (fun ⟨_, h⟩ => .rowNil _ _ _ _ _ h)
  | rowEnd id o g own s cap h ho a c => exact (JI.le_live (hJ id) h).elim (fun h => .rowDead _ _ _ _ _ _ h (Nat.zero_le _) (by simp)) (fun ⟨_, h⟩ => .rowEnd _ _ _ _ _ _ h ho _ _)
  | rowDead id s o len p c h hc hp => exact .rowDead _ _ _ _ _ _ (JI.le_dead (hJ id) h) hc hp
  | agg l vs hl _ ih => exact .agg l vs hl ih
  | tup l vs hl _ ih => exact .tup l vs hl ih
  | clo f l vs hl _ ih => exact .clo f l vs hl ih
  | may c x v _ h' ih => exact .may c x v ih h'
  | junk v => exact .junk v

theorem freeze_cell (w : World) (a : Addr) (n : Nat) (b : Addr) : (w.freeze a n).cell? b = w.cell? b := by
  unfold World.freeze
  split
  · rfl
  · unfold World.cell?
    simp only [Array.getElem?_modify]
    by_cases e : a.block = b.block
    · rw [if_pos e]
      cases hq : w.heap[b.block]? with
      | none => simp
      | some o =>
        simp only [Option.map_some]
        cases o with
        | cells c el fr => obtain ⟨lo, hi⟩ := fr; rfl
        | _ => rfl
    · rw [if_neg e]

theorem freeze_other (w : World) (a : Addr) (n g : Nat) (h : g ≠ a.block) : (w.freeze a n).heap[g]? = w.heap[g]? := by
  unfold World.freeze
  split
  · rfl
  · simp only [Array.getElem?_modify, if_neg (Ne.symm h)]

theorem freeze_size (w : World) (a : Addr) (n : Nat) : (w.freeze a n).heap.size = w.heap.size := by
  unfold World.freeze
  split
  · rfl
  · simp

theorem s2s_sound (hH : HRel J F w H) (hr : ORel J F w ρ a) {o : Oper} {src e : TypeId} {x : Operand} {x' : Opd} (ho : o.op = .convert src src x) (hx : cOpd x = some x') (hs : P.underlying src = some (.slice e)) (he : P.underlying e = some (.int .u8))
    {ns id : Id} {r : AV} {H' : Hp} (h : semW C H ρ ns id (.s2s x') = some (r, H')) : Does P J F w a o r H' := by
  have hv := hr.ev hx
  simp only [semW] at h
  split at h
  · rename_i b s o' n hxb
    rw [hxb] at hv
    split at h
    · rename_i s' es hb
      split at h
      · rename_i hc
        obtain ⟨hn, rfl⟩ := hc
        simp only [Option.some.injEq, Prod.mk.injEq] at h
        obtain ⟨rfl, rfl⟩ := h
        have hf : fix H [b] = some (upd H b (some (.frow s' es))) := by
          simp only [fix, List.all_cons, List.all_nil, Bool.and_true, okFix, hb, if_true, Option.some.injEq]
          funext i
          simp only [upd, List.contains_cons, List.contains_nil, Bool.or_false, beq_iff_eq]
          split
          · rename_i e; subst e; rw [hb]; rfl
          · rfl
        obtain ⟨J1, F1, hH1, he1, hle⟩ := fix_sound hH hf
        generalize hev : a.eval x = u at hv
        cases hH.blk _ _ hb with
        | row _ _ g cap cur ty hJ hg hsz hn' hm hel hcc h1 =>
          have hv1 := hv.ext hH he1
          have hshape : ∃ k c, u = .slice (some ⟨g, k, none⟩) n c := by
            cases hv with
            | row _ _ _ g' own _ cap' hJ' _ => rw [hJ] at hJ'; cases hJ'; exact ⟨_, _, rfl⟩
            | rowNil _ _ _ _ _ hJ' => exact absurd rfl hn
            | rowEnd _ _ _ _ _ _ hJ' _ => exact absurd rfl hn
            | rowDead _ _ _ _ _ _ hJ' => rw [hJ] at hJ'; cases hJ'
          obtain ⟨k, c, hu⟩ := hshape
          have hrun : (convert src src u).run P w = .ok u (w.freeze ⟨g, cur.size, none⟩ 1) := by
            subst hu
            have hsh : w.shape? g = some (ty, cur.size) := by simp [World.shape?, hg]
            simp [convert, run_underlying hs, run_underlying he, markStringish, hsh]
          have hcell := freeze_cell w ⟨g, cur.size, none⟩ 1
          have hoth : ∀ q, q ≠ g → (w.freeze ⟨g, cur.size, none⟩ 1).heap[q]? = w.heap[q]? := fun q hq => freeze_other w _ 1 q hq
          have hFg : F1 g := hle g (.inr ⟨b, by simp, s', cap, hJ⟩)
          refine does_run (v := u) (w' := w.freeze ⟨g, cur.size, none⟩ 1) (J' := J1) (F' := F1) ?_ (hv1.cellsJ (fun _ => JI.le_refl _) (fun _ h => h) hcell) ⟨?_, hH1.none, hH1.inj, hH1.own, fun i q o s c h => by rw [freeze_size]; exact hH1.live i q o s c h, fun q hq => by rw [freeze_size]; exact hH1.fsz q hq⟩
            ⟨he1.le, he1.fle, he1.fnew, he1.onew, ?_, by rw [freeze_size]; exact Nat.le_refl _, ?_, ?_, ?_⟩
          · unfold execOp
            simp only [ho, hev, Sem.run_bind, hrun, Result.andThen_ok, Sem.run_pure]
          · intro i bb hbb
            cases hH1.blk i bb hbb with
            | box cells g' s cap cur e hJ' hg' hs hc h1 =>
              have hne : g' ≠ g := fun e' => hH1.own g' ⟨i, _, _, hJ'⟩ (e' ▸ hFg)
              exact .box cells g' s cap cur e hJ' ((hoth _ hne).trans hg') hs (fun j x v h2 h3 => (hc j x v h2 h3).cellsJ (fun _ => JI.le_refl _) (fun _ h => h) hcell) h1
            | row s es g' cap cur e hJ' hg' hs hn hm he hc h1 =>
              have hne : g' ≠ g := fun e' => hH1.own g' ⟨i, _, _, hJ'⟩ (e' ▸ hFg)
              exact .row s es g' cap cur e hJ' ((hoth _ hne).trans hg') hs hn hm he (fun i j x d v h2 h3 h4 => (hc i j x d v h2 h3 h4).cells (fun _ h => h) hcell) h1
            | rowNil s cap h => exact .rowNil s cap h
            | fbox cells g' own s cap vals hJ' hown hFg' hcl hrep => exact .fbox cells g' own s cap vals hJ' hown hFg' (fun j d h2 => by rw [hcell]; exact hcl j d h2) (fun j d h2 => (hrep j d h2).cells (fun _ h => h) hcell)
            | frow s es g' own cap vals hJ' hown hFg' he hsg hn hcl hrep => exact .frow s es g' own cap vals hJ' hown hFg' he hsg hn (fun i j x d h2 h3 => by rw [hcell]; exact hcl i j x d h2 h3) (fun i j x d h2 h3 => (hrep i j x d h2 h3).cells (fun _ h => h) hcell)
            | frowNil s cap own h => exact .frowNil s cap own h
            | dead h => exact .dead h
          · intro q hq hno
            exact hoth q (fun e' => hno (e' ▸ ⟨b, _, _, hJ⟩))
          · rfl
          · rfl
          · rfl
        | rowNil _ _ hJ =>
          exfalso
          cases hv with
          | row _ _ _ g' own _ cap' hJ' _ => rw [hJ] at hJ'; cases hJ'
          | rowNil _ _ _ _ _ hJ' => exact hn rfl
          | rowEnd _ _ _ _ _ _ hJ' _ => exact hn rfl
          | rowDead _ _ _ _ _ _ hJ' => rw [hJ] at hJ'; cases hJ'
      · cases h
    · cases h
  · cases h

theorem write_sound (hH : HRel J F w H) (hr : ORel J F w ρ a) {o : Oper} {p : WOp} (hc : compW P o = some p) {ns id : Id} {r : AV} {H' : Hp} (hs : semW C H ρ ns id p = some (r, H')) : Does P J F w a o r H' := by
  unfold compW at hc
  split at hc
  · rename_i src dst x ho
    split at hc
    · rename_i x' e hx hs'
      split at hc
      · rename_i he
        split at hc
        · rename_i hsd
          subst hsd
          cases hc
          exact s2s_sound hH hr ho hx hs' he hs
        · cases hc
      · cases hc
    · cases hc
  · rename_i t x v ho
    split at hc
    · rename_i x' v' i hx hv hi
      cases hc
      exact store_sound hH hr ho hx hv hi hs
    · cases hc
  · rename_i c ho
    split at hc
    · rename_i x y t u hcal hargs hats
      split at hc
      · rename_i e du ht hu
        split at hc
        · rename_i x' y' i z hx hy hi hz
          have ha : c.args = #[x, y] := by apply Array.ext'; simpa using hargs
          have hb : c.argTypes = #[t, u] := by apply Array.ext'; simpa using hats
          split at hc
          · rename_i hcond
            split at hc
            · cases hc
              exact app_sound hH hr ho hcal ha hb ht hu hx hy hi hz hcond.1 (.inl ⟨rfl, _, rfl⟩) hs
            · split at hc
              · rename_i h1
                cases hc
                exact app_sound hH hr ho hcal ha hb ht hu hx hy hi hz hcond.1 (.inr ⟨⟨rfl, h1⟩, rfl⟩) hs
              · cases hc
            · cases hc
          · cases hc
        · cases hc
      · cases hc
    · cases hc
  · cases hc

/-- **Any operation.** -/
theorem op_sound (hC : ConOk P C) (hH : HRel J F w H) (hr : ORel J F w ρ a) (hp : ∀ b, b = true → ORel J F w (ρp b) a) {o : Oper} {p : AOp} (hc : compOp P o = some p) {ns id : Id} {x : AV} {H' : Hp} (hs : semE C H ρ ρp ns id p = some (x, H')) : Does P J F w a o x H' := by
  unfold compOp at hc
  split at hc
  · rename_i p' _ _ _ h
    cases hc
    simp only [semE, Option.map_eq_some_iff, Prod.mk.injEq] at hs
    obtain ⟨v, hv, rfl, rfl⟩ := hs
    exact (pure_sound hr hp h hv).does hH
  · rename_i p' _ _ _ h
    cases hc
    exact read_sound hC hH hr h hs
  · rename_i p' _ _ _ h
    cases hc
    simp only [semE] at hs
    split at hs
    · cases hs
    · rename_i hid
      have hid : H id = none := by cases hh : H id <;> simp_all
      simp only [Option.map_eq_some_iff, Prod.mk.injEq] at hs
      obtain ⟨⟨v, b⟩, hv, rfl, rfl⟩ := hs
      exact alloc_sound hH hr h hid hv
  · rename_i p' _ _ _ h
    cases hc
    exact write_sound (C := C) (ns := ns) hH hr h hs
  · cases hc

end
end Go.AI
