/- Reading: what is loaded, and what data values come to. -/
import Derived.Test.YtpolaeonmmolnaaAIl
namespace Go.AI
set_option linter.unusedVariables false
set_option linter.unusedSimpArgs false
section
variable {P : Program} {J : Id → JI} {F : Nat → Prop} {w : World} {H : Hp} {ρ : Opd → AV} {a : Act}

theorem load_run {t : TypeId} {d : TypeDesc} (ht : P.underlying t = some d) {g o : Nat} {vs : List Value} (hv : ∀ (j : Nat) v, vs[j]? = some v → w.cell? ⟨g, o + j, none⟩ = some v) (hl : vs.length = P.cellsOf t) {x : AV}
    (hx : if isAggB P t = true then VRel J F w x (.agg vs.toArray) else ∃ v, vs = [v] ∧ VRel J F w x v) :
    ∃ v, (Instr.loadAt t (.pointer (some ⟨g, o, none⟩))).run P w = .ok v w ∧ VRel J F w x v := by
  obtain ⟨i, hi⟩ := info_of_underlying ht
  rw [cellsOf_info hi] at hl
  unfold Instr.loadAt Instr.sureAddr loadVar
  simp only [Sem.run_bind, Sem.run_pure, Result.andThen_ok, run_isAgg ht]
  cases ha : isAggB P t
  · rw [ha] at hx
    simp only [Bool.false_eq_true, if_false] at hx ⊢
    obtain ⟨v, rfl, hx⟩ := hx
    refine ⟨v, ?_, hx⟩
    have := hv 0 v rfl
    rw [Nat.add_zero] at this
    simp [run_load, this]
  · rw [ha] at hx
    simp only [if_true] at hx ⊢
    refine ⟨_, ?_, hx⟩
    have hc : (loadCells ⟨g, o, none⟩ vs.length).run P w = .ok vs.toArray w := run_loadCells_list (P := P) w ⟨g, o, none⟩ vs (fun j v h => by rw [Addr.add_mid]; exact hv j v h)
    rw [hl] at hc
    simp only [Sem.run_bind, run_sizeOf hi, Result.andThen_ok, hc, Sem.run_pure]

theorem cell_of_heap {g : Nat} {cur : Array Value} {e : TypeId} {fr : Nat × Nat} (h : w.heap[g]? = some (.cells cur e fr)) (j : Nat) : w.cell? ⟨g, j, none⟩ = cur[j]? := by
  simp [World.cell?, h]

/-- Cells that lie one behind the other. -/
theorem cells_list (n g o : Nat) (f : Nat → Value) (h : ∀ j, j < n → w.cell? ⟨g, o + j, none⟩ = some (f j)) : ∀ (j : Nat) v, ((List.range n).map f)[j]? = some v → w.cell? ⟨g, o + j, none⟩ = some v := by
  intro j v hv
  rw [List.getElem?_map] at hv
  cases hr : (List.range n)[j]? with
  | none => rw [hr] at hv; simp at hv
  | some k =>
    have hj : j < n := by have := (List.getElem?_eq_some_iff.1 hr).1; simpa using this
    rw [List.getElem?_range hj] at hr
    cases hr
    rw [List.getElem?_range hj] at hv
    simp at hv
    subst hv
    exact h j hj

theorem range_map_get {n j : Nat} {f : Nat → Value} {v : Value} (hv : ((List.range n).map f)[j]? = some v) : j < n ∧ v = f j := by
  have hj : j < n := by have := (List.getElem?_eq_some_iff.1 hv).1; simpa using this
  rw [List.getElem?_map, List.getElem?_range hj] at hv
  simp at hv
  exact ⟨hj, hv.symm⟩

theorem load_cells_av {t : TypeId} {d : TypeDesc} (ht : P.underlying t = some d) {g o : Nat} {l : List AV} (hl : l.length = P.cellsOf t) (f : Nat → Value) (hc : ∀ j, j < l.length → w.cell? ⟨g, o + j, none⟩ = some (f j))
    (hr : ∀ (j : Nat) y, l[j]? = some y → VRel J F w y (f j)) {x : AV} (hx : ofCells (isAggB P t) l = some x) : ∃ v, (Instr.loadAt t (.pointer (some ⟨g, o, none⟩))).run P w = .ok v w ∧ VRel J F w x v := by
  refine load_run ht (vs := (List.range l.length).map f) (cells_list _ _ _ _ hc) (by simpa using hl) (ofCells_rel hx ⟨by simp, ?_⟩)
  intro j y u h1 h2
  obtain ⟨_, rfl⟩ := range_map_get h2
  exact hr j y h1

theorem load_cells_dv {t : TypeId} {d : TypeDesc} (ht : P.underlying t = some d) {g o : Nat} {l : List DV} (hl : l.length = P.cellsOf t) (f : Nat → Value) (hc : ∀ j, j < l.length → w.cell? ⟨g, o + j, none⟩ = some (f j))
    (hr : ∀ (j : Nat) y, l[j]? = some y → Rep F w y (f j)) {x : AV} (hx : ofDCells (isAggB P t) l = some x) : ∃ v, (Instr.loadAt t (.pointer (some ⟨g, o, none⟩))).run P w = .ok v w ∧ VRel J F w x v := by
  refine load_run ht (vs := (List.range l.length).map f) (cells_list _ _ _ _ hc) (by simpa using hl) (ofDCells_rel hx ⟨by simp, ?_⟩)
  intro j y u h1 h2
  obtain ⟨_, rfl⟩ := range_map_get h2
  exact hr j y h1

theorem get_drop_take {α : Type} {l : List α} {o n j : Nat} {y : α} (h : ((l.drop o).take n)[j]? = some y) : j < n ∧ l[o + j]? = some y := by
  rw [List.getElem?_take] at h
  split at h
  · rename_i hj; rw [List.getElem?_drop] at h; exact ⟨hj, h⟩
  · cases h

/-- **A load.** -/
theorem load_sound (hH : HRel J F w H) {t : TypeId} {d : TypeDesc} (ht : P.underlying t = some d) {x y : AV} {v : Value} (hv : VRel J F w x v) (h : loadA H (P.cellsOf t) (isAggB P t) x = some y) :
    ∃ u, (Instr.loadAt t v).run P w = .ok u w ∧ VRel J F w y u := by
  unfold loadA at h
  split at h
  · -- data
    rename_i cs
    split at h
    · rename_i hn
      cases hv.inv_val with
      | pt _ g o vals hF hcell hrep =>
        refine load_cells_dv ht (l := cs.take (P.cellsOf t)) (by rw [List.length_take]; omega) vals ?_ ?_ h
        · intro j hj
          rw [List.length_take] at hj
          exact hcell j cs[j] (List.getElem?_eq_getElem (by omega))
        · intro j z hz
          rw [List.getElem?_take] at hz
          split at hz
          · exact hrep j z hz
          · cases hz
    · cases h
  · rename_i id o
    split at h
    · rename_i cells hb
      split at h
      · rename_i hn
        cases hH.blk _ _ hb with
        | box _ g s cap cur e hJ hg hs hc h1 =>
          cases hv with
          | box _ _ g' own' s' cap' hJ' =>
            rw [hJ] at hJ'; cases hJ'
            refine load_cells_av ht (l := (cells.drop o).take (P.cellsOf t)) (by rw [List.length_take, List.length_drop]; omega) (fun j => cur.getD (o + j) undef) ?_ ?_ h
            · intro j hj
              rw [List.length_take, List.length_drop] at hj
              rw [cell_of_heap hg]
              have : o + j < cur.size := by omega
              simp [Array.getD, this]
            · intro j z hz
              obtain ⟨hj, hz⟩ := get_drop_take hz
              have hlt : o + j < cur.size := by have := (List.getElem?_eq_some_iff.1 hz).1; omega
              have : cur[o + j]? = some (cur.getD (o + j) undef) := by simp [Array.getD, hlt]
              exact hc _ _ _ hz this
          | boxDead _ _ _ hJ' => rw [hJ] at hJ'; cases hJ'
      · cases h
    · rename_i cells hb
      split at h
      · rename_i hn
        cases hH.blk _ _ hb with
        | fbox _ g own s cap vals hJ hown hF hcell hrep =>
          cases hv with
          | box _ _ g' own' s' cap' hJ' =>
            rw [hJ] at hJ'; cases hJ'
            refine load_cells_dv ht (l := (cells.drop o).take (P.cellsOf t)) (by rw [List.length_take, List.length_drop]; omega) (fun j => vals (o + j)) ?_ ?_ h
            · intro j hj
              rw [List.length_take, List.length_drop] at hj
              exact hcell _ _ (List.getElem?_eq_getElem (by omega))
            · intro j z hz
              obtain ⟨hj, hz⟩ := get_drop_take hz
              exact hrep _ _ hz
          | boxDead _ _ _ hJ' => rw [hJ] at hJ'; cases hJ'
      · cases h
    · cases h
  · rename_i id i o
    have key : ∀ (s : Nat) (es : List (List DV)) (e : List DV), H id = some (.row s es) ∨ H id = some (.frow s es) → es[i]? = some e → o + P.cellsOf t ≤ e.length → ofDCells (isAggB P t) ((e.drop o).take (P.cellsOf t)) = some y →
        ∃ u, (Instr.loadAt t v).run P w = .ok u w ∧ VRel J F w y u := by
      intro s es e hb he hn h
      have hlen : ∀ j, j < ((e.drop o).take (P.cellsOf t)).length → o + j < e.length := by
        intro j hj; rw [List.length_take, List.length_drop] at hj; omega
      rcases hb with hb | hb
      · cases hH.blk _ _ hb with
        | row _ _ g cap cur ty hJ hg hs hn' hm hel hc h1 =>
          cases hv with
          | elt _ _ _ g' own' s' cap' hJ' =>
            rw [hJ] at hJ'; cases hJ'
            have hes : e.length = s := hel e (List.mem_of_getElem? he)
            have hi : i < cap := by have := (List.getElem?_eq_some_iff.1 he).1; omega
            have hsz : ∀ j, o + j < e.length → i * s + (o + j) < cur.size := by
              intro j hj
              rw [hs]
              have : (i + 1) * s ≤ cap * s := Nat.mul_le_mul_right _ hi
              rw [Nat.succ_mul] at this
              omega
            refine load_cells_dv ht (l := (e.drop o).take (P.cellsOf t)) (by rw [List.length_take, List.length_drop]; omega) (fun j => cur.getD (i * s + (o + j)) undef) ?_ ?_ h
            · intro j hj
              have := hsz j (hlen j hj)
              rw [Nat.add_assoc, cell_of_heap hg]
              simp [Array.getD, this]
            · intro j z hz
              obtain ⟨hj, hz⟩ := get_drop_take hz
              have hlt := hsz j (List.getElem?_eq_some_iff.1 hz).1
              have : cur[i * s + (o + j)]? = some (cur.getD (i * s + (o + j)) undef) := by simp [Array.getD, hlt]
              exact hc _ _ _ _ _ he hz this
          | eltDead _ _ _ _ hJ' => rw [hJ] at hJ'; cases hJ'
        | rowNil s' cap hJ => simp at he
      · cases hH.blk _ _ hb with
        | frow _ _ g own cap vals hJ hown hF hel hsg hn' hcell hrep =>
          cases hv with
          | elt _ _ _ g' own' s' cap' hJ' =>
            rw [hJ] at hJ'; cases hJ'
            refine load_cells_dv ht (l := (e.drop o).take (P.cellsOf t)) (by rw [List.length_take, List.length_drop]; omega) (fun j => vals i (o + j)) ?_ ?_ h
            · intro j hj
              rw [Nat.add_assoc]
              exact hcell _ _ _ _ he (List.getElem?_eq_getElem (hlen j hj))
            · intro j z hz
              obtain ⟨hj, hz⟩ := get_drop_take hz
              exact hrep _ _ _ _ he hz
          | eltDead _ _ _ _ hJ' => rw [hJ] at hJ'; cases hJ'
        | frowNil s' cap own hJ => simp at he
    split at h
    · rename_i s es hb
      split at h
      · rename_i e he
        split at h
        · exact key s es e (.inl hb) he (by assumption) h
        · cases h
      · cases h
    · rename_i s es hb
      split at h
      · rename_i e he
        split at h
        · exact key s es e (.inr hb) he (by assumption) h
        · cases h
      · cases h
    · cases h
  · cases h

end
end Go.AI
