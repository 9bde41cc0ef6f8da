/- What makes a block. -/
import Derived.Test.YtpolaeonmmolnaaAIo
import Derived.Laws.MakeOwn
namespace Go.AI
set_option linter.unusedVariables false
set_option linter.unusedSimpArgs false

def cSets : List (Nat × Operand) → Option (List (Nat × Opd))
  | [] => some []
  | (i, x) :: l => match cOpd x, cSets l with
    | some y, some m => some ((i, y) :: m)
    | _, _ => none

def compA (P : Program) (o : Oper) : Option AlOp :=
  match o.op with
  | .alloc t => (zeros P t).map .alloc
  | .box _ x => (cOpd x).map .bx
  | .buildSlice t n ps => match P.underlying t with
    | some (.slice e) => match zeros P e, cSets ps.toList with
      | some z, some qs => if z.length = P.cellsOf e ∧ 0 < P.cellsOf e ∧ n * P.cellsOf e ≤ 16777216 then some (.bsl (P.cellsOf e) n z qs) else none
      | _, _ => none
    | _ => none
  | .makeSlice t l c => match P.underlying t with
    | some (.slice e) => match zeros P e, cOpd l, cOpd c with
      | some z, some l', some c' => if z.length = P.cellsOf e ∧ 0 < P.cellsOf e then some (.mks (P.cellsOf e) (P.bytesOf e) z l' c') else none
      | _, _, _ => none
    | _ => none
  | _ => none

section
variable {P : Program} {J : Id → JI} {F : Nat → Prop} {w : World} {H : Hp} {ρ : Opd → AV} {a : Act}

theorem lit1_one {v : Value} {d : DV} (h : lit1 v = some d) : v.oneCell' = true := by
  unfold lit1 at h
  split at h <;> first | rfl | cases h

theorem lits_one : ∀ {l : List Value} {ds : List DV}, lits l = some ds → ∀ (j : Nat) v, l[j]? = some v → v.oneCell' = true
  | [], _, _, j, v, hv => by simp at hv
  | u :: l, ds, h, j, v, hv => by
    simp only [lits] at h
    split at h
    · cases h
      rename_i h1 h2
      cases j with
      | zero => simp at hv; subst hv; exact lit1_one h1
      | succ j => simp at hv; exact lits_one h2 j v hv
    · cases h

theorem VRel.one {x : AV} {v : Value} (h : VRel J F w x v) (hs : x.single = true) : v.oneCell' = true := by
  cases h with
  | val d _ h => exact h.one hs
  | agg => simp [AV.single] at hs
  | tup => simp [AV.single] at hs
  | may => simp [AV.single] at hs
  | junk => simp [AV.single] at hs
  | _ => rfl

/-- A new variable. -/
theorem new_box (hH : HRel J F w H) {id : Id} (hid : H id = none) {e : TypeId} {v : Value} {l : List AV} (hl : v.cells.toList.length = l.length) (hr : ∀ (j : Nat) y u, l[j]? = some y → v.cells.toList[j]? = some u → VRel J F w y u)
    (h1 : ∀ (j : Nat) u, v.cells.toList[j]? = some u → u.oneCell' = true) :
    ∃ J', HRel J' F (w.alloc (.cells v.cells e)) (upd H id (some (.box l))) ∧ Ext J F w J' F (w.alloc (.cells v.cells e)) ∧ VRel J' F (w.alloc (.cells v.cells e)) (.box id 0) (.pointer (some ⟨w.heap.size, 0, none⟩)) := by
  obtain ⟨h2, h3⟩ := alloc_new hH id hid (.cells v.cells e) 0 0 (.box l) (by
    intro J' hJ' hV hR
    subst hJ'
    refine .box l w.heap.size 0 0 v.cells e (updJ_same _ _ _) (heap_alloc_new w _) (by simpa using hl) ?_ ?_
    · intro j y u h2 h3
      exact hV y u (hr j y u h2 (by simpa using h3))
    · intro j u h2
      exact h1 j u (by simpa using h2))
  exact ⟨_, h2, h3, .box id 0 _ true 0 0 (updJ_same _ _ _)⟩

/-- Cells of elements, one behind the other. -/
structure Grid (F : Nat → Prop) (w : World) (s : Nat) (es : List (List DV)) (vs : List Value) : Prop where
  len : es.length * s ≤ vs.length
  el : ∀ x ∈ es, x.length = s
  rep : ∀ (i j : Nat) x d v, es[i]? = some x → x[j]? = some d → vs[i * s + j]? = some v → Rep F w d v
  one : ∀ (j : Nat) v, vs[j]? = some v → v.oneCell' = true

theorem divmod {i s j : Nat} (hj : j < s) : (i * s + j) / s = i ∧ (i * s + j) % s = j := by
  constructor
  · rw [Nat.mul_comm, Nat.mul_add_div (by omega), Nat.div_eq_of_lt hj, Nat.add_zero]
  · rw [Nat.mul_comm, Nat.mul_add_mod, Nat.mod_eq_of_lt hj]

theorem grid_made {z : List DV} {v : Value} {s : Nat} (hs : 0 < s) (hz : cellsRel F w z v.cells.toList) (hzl : z.length = s) (h1 : ∀ (j : Nat) u, v.cells.toList[j]? = some u → u.oneCell' = true) (n : Nat) :
    Grid F w s (List.replicate n z) (madeCells v.cells (n * s)).toList ∧ (madeCells v.cells (n * s)).size = n * s := by
  have hsz : v.cells.size = s := by have := hz.1; simpa [hzl] using this
  have get : ∀ k u, (madeCells v.cells (n * s)).toList[k]? = some u → k < n * s ∧ v.cells.toList[k % s]? = some u := by
    intro k u hk
    have hlt : k < n * s := by have := (List.getElem?_eq_some_iff.1 hk).1; simpa [madeCells] using this
    refine ⟨hlt, ?_⟩
    simp only [madeCells, Array.toList_map, Array.toList_range, List.getElem?_map, List.getElem?_range hlt, Option.map_some, Option.some.injEq] at hk
    subst hk
    have hm : k % s < s := Nat.mod_lt _ hs
    rw [hsz]
    simp [getElem!_pos, hsz, hm]
  refine ⟨⟨by simp [madeCells], ?_, ?_, ?_⟩, by simp [madeCells]⟩
  · intro x hx
    rw [List.eq_of_mem_replicate hx]
    exact hzl
  · intro i j x d u hx hd hu
    have hx := List.eq_of_mem_replicate (List.mem_of_getElem? hx)
    subst hx
    obtain ⟨_, hg⟩ := get _ _ hu
    have hj : j < s := by have := (List.getElem?_eq_some_iff.1 hd).1; omega
    rw [(divmod hj).2] at hg
    exact hz.2 j d u hd hg
  · intro j u hu
    exact h1 _ u (get _ _ hu).2

theorem Grid.set {s : Nat} {es : List (List DV)} {vs us : List Value} {i : Nat} {ds : List DV} (hg : Grid F w s es vs) (hr : cellsRel F w ds us) (hl : ds.length = s) (hi : i < es.length) (h1 : ∀ (j : Nat) u, us[j]? = some u → u.oneCell' = true) :
    Grid F w s (es.set i ds) (splice vs (i * s) us) ∧ (splice vs (i * s) us).length = vs.length ∧ i * s + us.length ≤ vs.length := by
  have hb : i * s + us.length ≤ vs.length := by
    have : (i + 1) * s ≤ es.length * s := Nat.mul_le_mul_right _ hi
    rw [Nat.succ_mul] at this
    have := hg.len
    have := hr.1
    omega
  have hul : us.length = s := by rw [hr.1, hl]
  refine ⟨⟨by rw [List.length_set, splice_length _ _ _ hb]; exact hg.len, ?_, ?_, ?_⟩, splice_length _ _ _ hb, hb⟩
  · intro x hx
    rcases List.mem_or_eq_of_mem_set hx with h | h
    · exact hg.el x h
    · rw [h, hl]
  · intro k j x d v hx hd hv
    rw [splice_get _ _ _ hb] at hv
    by_cases hk : k = i
    · subst hk
      rw [List.getElem?_set_self hi] at hx
      cases hx
      have hj : j < s := by have := (List.getElem?_eq_some_iff.1 hd).1; omega
      rw [if_neg (by omega), if_pos (by omega), Nat.add_sub_cancel_left] at hv
      exact hr.2 j d v hd hv
    · rw [List.getElem?_set_ne (by omega)] at hx
      have hj : j < s := by have := (List.getElem?_eq_some_iff.1 hd).1; rwa [hg.el x (List.mem_of_getElem? hx)] at this
      have hv' : vs[k * s + j]? = some v := by
        by_cases h2 : k * s + j < i * s
        · rwa [if_pos h2] at hv
        · rw [if_neg h2] at hv
          have h3 : ¬ k * s + j < i * s + us.length := by
            rw [hul]
            intro h4
            have : k < i + 1 := by
              rcases Nat.lt_or_ge k (i + 1) with h | h
              · exact h
              · have := Nat.mul_le_mul_right s h; rw [Nat.succ_mul] at this; omega
            have : i < k + 1 := by
              rcases Nat.lt_or_ge i (k + 1) with h | h
              · exact h
              · have := Nat.mul_le_mul_right s h; rw [Nat.succ_mul] at this; omega
            omega
          rwa [if_neg h3] at hv
      exact hg.rep k j x d v hx hd hv'
  · intro j v hv
    rw [splice_get _ _ _ hb] at hv
    split at hv
    · exact hg.one j v hv
    · split at hv
      · exact h1 _ v hv
      · exact hg.one j v hv

theorem with_nil {g : Nat} (h : With J F [] g) : F g := h.elim id (fun ⟨_, h, _⟩ => by cases h)

theorem setParts_run (hH : HRel J F w H) (hr : ORel J F w ρ a) {s : Nat} : ∀ {ps : List (Nat × Operand)} {qs : List (Nat × Opd)} {es fs : List (List DV)} {vs : List Value}, cSets ps = some qs → setParts H ρ s es qs = some fs → Grid F w s es vs →
    ∃ us : List Value, Instr.fill (fun i => some (i * s, s)) vs.toArray (ps.map fun (i, x) => (i, a.eval x)) = some us.toArray ∧ Grid F w s fs us ∧ us.length = vs.length ∧ fs.length = es.length
  | [], qs, es, fs, vs, hc, hp, hg => by
    simp [cSets] at hc
    subst hc
    simp only [setParts, Option.some.injEq] at hp
    subst hp
    exact ⟨vs, rfl, hg, rfl, rfl⟩
  | (i, x) :: ps, qs, es, fs, vs, hc, hp, hg => by
    simp only [cSets] at hc
    split at hc
    · cases hc
      rename_i y m h1 h2
      simp only [setParts] at hp
      split at hp
      · rename_i cs hcs
        split at hp
        · rename_i ds hd
          split at hp
          · rename_i hb
            obtain ⟨hl, hi, hsg⟩ := hb
            have hx := (hr.ev h1).cells hcs
            obtain ⟨hdl, hdr⟩ := (argD_rel hH 99).2 _ _ _ hd
            have hrel : cellsRel F w ds (a.eval x).cells.toList := by
              refine ⟨by rw [hx.1, hdl], fun j d v h3 h4 => ?_⟩
              have hj : j < cs.length := by rw [← hdl]; exact (List.getElem?_eq_some_iff.1 h3).1
              exact (hdr j _ d v (List.getElem?_eq_getElem hj) h3 (hx.2 j _ v (List.getElem?_eq_getElem hj) h4)).mono (fun g h => with_nil h) (fun _ _ => rfl)
            have hone : ∀ (j : Nat) u, (a.eval x).cells.toList[j]? = some u → u.oneCell' = true := by
              intro j u hu
              have hj : j < ds.length := by rw [← hrel.1]; exact (List.getElem?_eq_some_iff.1 hu).1
              exact (hrel.2 j _ u (List.getElem?_eq_getElem hj) hu).one (List.all_eq_true.1 hsg _ (List.getElem_mem hj))
            obtain ⟨hg', hgl, hgb⟩ := hg.set hrel hl hi hone
            obtain ⟨us, hu, hU, hul, hfl⟩ := setParts_run hH hr h2 hp hg'
            refine ⟨us, ?_, hU, by rw [hul, hgl], by rw [hfl, List.length_set]⟩
            have hsz : (a.eval x).cells.size = s := by have := hrel.1; simp only [Array.length_toList] at this; rw [this, hl]
            simp only [List.map_cons, Instr.fill]
            rw [if_neg (by simp only [hsz, ne_eq, not_true_eq_false, decide_false, Bool.false_or, decide_eq_true_eq]; simp only [Array.length_toList, hsz] at hgb; simp; omega)]
            have hf := fill_cells vs (a.eval x).cells.toList (i * s) hgb
            rw [Array.toArray_toList] at hf
            rw [hf]
            exact hu
          · cases hp
        · cases hp
      · cases hp
    · cases hc

/-- A new row. -/
theorem new_row (hH : HRel J F w H) {id : Id} (hid : H id = none) {e : TypeId} {s cap : Nat} {cur : Array Value} {es : List (List DV)} (hg : Grid F w s es cur.toList) (hs : cur.size = cap * s) (hn : es.length ≤ cap) (hm : cap ≤ maxLen) :
    ∃ J', HRel J' F (w.alloc (.cells cur e)) (upd H id (some (.row s es))) ∧ Ext J F w J' F (w.alloc (.cells cur e)) ∧ VRel J' F (w.alloc (.cells cur e)) (.row id s 0 es.length) (.slice (some ⟨w.heap.size, 0, none⟩) es.length cap) := by
  obtain ⟨h2, h3⟩ := alloc_new hH id hid (.cells cur e) s cap (.row s es) (by
    intro J' hJ' hV hR
    subst hJ'
    refine .row s es w.heap.size cap cur e (updJ_same _ _ _) (heap_alloc_new w _) hs hn hm hg.el ?_ ?_
    · intro i j x d v h2 h3 h4
      exact hR d v (hg.rep i j x d v h2 h3 (by simpa using h4))
    · intro j u h2
      exact hg.one j u (by simpa using h2))
  refine ⟨_, h2, h3, ?_⟩
  have := VRel.row (J := updJ J id (.live (some w.heap.size) true s cap)) (F := F) (w := w.alloc (.cells cur e)) id 0 es.length w.heap.size true s cap (updJ_same _ _ _) (by omega)
  simpa using this

/-- **What makes a block makes it.** -/
theorem alloc_sound {C : FuncId → Con} (hH : HRel J F w H) (hr : ORel J F w ρ a) {o : Oper} {p : AlOp} (hc : compA P o = some p) {id : Id} (hid : H id = none) {x : AV} {b : Blk} (hs : semA C H ρ id p = some (x, b)) : Does P J F w a o x (upd H id (some b)) := by
  unfold compA at hc
  split at hc
  · rename_i t ho
    simp only [Option.map_eq_some_iff] at hc
    obtain ⟨z, hz, rfl⟩ := hc
    simp only [semA] at hs
    split at hs
    · cases hs
      obtain ⟨i, v, hi, hv, hzr, hzc⟩ := zeros_rel (F := F) (w := w) hz
      have hl := hzc.toV (J := J)
      have h1 : ∀ (j : Nat) u, v.cells.toList[j]? = some u → u.oneCell' = true := by
        unfold zeros at hz
        rw [hi] at hz
        simp only [hv] at hz
        exact lits_one hz
      obtain ⟨J', q1, q2, q3⟩ := new_box (e := t) hH hid hl.1 hl.2 h1
      refine does_run ?_ q3 q1 q2
      unfold execOp
      simp only [ho, Instr.alloc, newVar, newRow, Sem.run_bind, hzr, Result.andThen_ok, run_newObj_alloc, Sem.run_pure]
    · cases hs
  · rename_i t y ho
    simp only [Option.map_eq_some_iff] at hc
    obtain ⟨x', hx, rfl⟩ := hc
    simp only [semA] at hs
    split at hs
    · rename_i cs hcs
      split at hs
      · rename_i hsg
        cases hs
        have hl := (hr.ev hx).cells hcs
        obtain ⟨J', q1, q2, q3⟩ := new_box (e := t) hH hid hl.1 hl.2 (by
          intro j u hu
          have hj : j < cs.length := by rw [← hl.1]; exact (List.getElem?_eq_some_iff.1 hu).1
          exact (hl.2 j _ u (List.getElem?_eq_getElem hj) hu).one (List.all_eq_true.1 hsg _ (List.getElem_mem hj)))
        refine does_run ?_ q3 q1 q2
        unfold execOp
        simp only [ho, Instr.box, newVar, newRow, Sem.run_bind, Result.andThen_ok, run_newObj_alloc, Sem.run_pure]
      · cases hs
    · cases hs
  · rename_i t n ps ho
    split at hc
    · rename_i e ht
      split at hc
      · rename_i z qs hz hq
        split at hc
        · rename_i hb
          obtain ⟨hzl, hs0, h24⟩ := hb
          cases hc
          simp only [semA] at hs
          split at hs
          · cases hs
          · rename_i hnn
            simp only [Option.map_eq_some_iff] at hs
            obtain ⟨es, hes, he⟩ := hs
            cases he
            obtain ⟨i, v, hi, hv, hzr, hzc⟩ := zeros_rel (F := F) (w := w) hz
            have h1 : ∀ (j : Nat) u, v.cells.toList[j]? = some u → u.oneCell' = true := by
              unfold zeros at hz
              rw [hi] at hz
              simp only [hv] at hz
              exact lits_one hz
            obtain ⟨hgm, hgs⟩ := grid_made hs0 hzc hzl h1 n
            obtain ⟨us, hu, hU, hul, hfl⟩ := setParts_run hH hr hq hes hgm
            have hel : es.length = n := by rw [hfl, List.length_replicate]
            have husz : us.length = n * P.cellsOf e := by rw [hul]; simpa using hgs
            have hnm : n ≤ maxLen := by unfold maxLen; omega
            obtain ⟨J', q1, q2, q3⟩ := new_row (e := e) (cur := us.toArray) (cap := n) hH hid (by simpa using hU) (by simpa using husz) (by omega) hnm
            rw [hel] at q3
            refine does_run ?_ q3 q1 q2
            have hcs : P.cellsOf e = i.size := cellsOf_info hi
            rw [hcs] at hs0 h24 hu
            have hn24 : ¬ (n * i.size > 2 ^ 24) := by omega
            have hf : Instr.fill (fun j => some (j * i.size, i.size)) (madeCells v.cells (n * i.size)) (ps.map fun (i, x) => (i, a.eval x)).toList = some us.toArray := by
              rw [Array.toArray_toList] at hu
              simpa using hu
            unfold execOp
            simp only [ho, Instr.buildSlice, Sem.run_bind, run_underlying ht, Result.andThen_ok, run_sizeOf hi]
            rw [if_neg hn24]
            by_cases h0 : n * i.size = 0
            · have hmade : (Array.range (n * i.size)).map (fun x => (#[] : Array Value)[x % (#[] : Array Value).size]!) = madeCells v.cells (n * i.size) := by simp [h0, madeCells]
              rw [← hmade] at hf
              simp only [if_pos h0, Sem.run_bind, Sem.run_pure, Result.andThen_ok]
              simp only [hf, newRow, run_newObj_alloc, Sem.run_bind, Result.andThen_ok, Sem.run_pure]
            · have hmade : (Array.range (n * i.size)).map (fun x => v.cells[x % v.cells.size]!) = madeCells v.cells (n * i.size) := rfl
              rw [← hmade] at hf
              simp only [if_neg h0, Sem.run_bind, hzr, Sem.run_pure, Result.andThen_ok]
              simp only [hf, newRow, run_newObj_alloc, Sem.run_bind, Result.andThen_ok, Sem.run_pure]
        · cases hc
      · cases hc
    · cases hc
  · rename_i t l c ho
    split at hc
    · rename_i e ht
      split at hc
      · rename_i z l' c' hz hl hcc
        split at hc
        · rename_i hb
          obtain ⟨hzl, hs0⟩ := hb
          cases hc
          simp only [semA] at hs
          split at hs
          · rename_i n m hn hm
            split at hs
            · rename_i hbb
              obtain ⟨h0, rfl, hby, h62, _, _⟩ := hbb
              cases hs
              obtain ⟨i, v, hi, hv, hzr, hzc⟩ := zeros_rel (F := F) (w := w) hz
              have h1 : ∀ (j : Nat) u, v.cells.toList[j]? = some u → u.oneCell' = true := by
                unfold zeros at hz
                rw [hi] at hz
                simp only [hv] at hz
                exact lits_one hz
              obtain ⟨hgm, hgs⟩ := grid_made hs0 hzc hzl h1 n.toNat
              have hnm : n.toNat ≤ maxLen := by unfold maxLen; omega
              obtain ⟨J', q1, q2, q3⟩ := new_row (e := e) (cap := n.toNat) hH hid hgm hgs (by simp) hnm
              rw [List.length_replicate] at q3
              obtain ⟨k1, hk1⟩ := num_run hr hl hn
              obtain ⟨k2, hk2⟩ := num_run hr hcc hm
              have hby' : (i.bytes : Int) * n ≤ 281474976710656 := by
                have : P.bytesOf e = i.bytes := by simp [Program.bytesOf, hi]
                rw [this] at hby
                exact hby
              have hrun := run_make (P := P) w t e i v ht hi hv k1 k2 n n h0 (Int.le_refl _) hby' (by omega)
              rw [← cellsOf_info hi] at hrun
              refine does_run ?_ q3 q1 q2
              unfold execOp
              simp only [ho, hk1, hk2, Sem.run_bind, hrun, Result.andThen_ok, Sem.run_pure]
            · cases hs
          · cases hs
        · cases hc
      · cases hc
    · cases hc
  · cases hc

end
end Go.AI
