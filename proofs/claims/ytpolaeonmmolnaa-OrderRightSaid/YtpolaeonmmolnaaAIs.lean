/- What writes: appends to a row of one's own. -/
import Derived.Test.YtpolaeonmmolnaaAIr
namespace Go.AI
set_option linter.unusedVariables false
set_option linter.unusedSimpArgs false
section
variable {P : Program} {J : Id → JI} {F : Nat → Prop} {w : World} {H : Hp} {ρ : Opd → AV} {a : Act}

/-- The elements of a source of an append. -/
structure Src (P : Program) (F : Nat → Prop) (w : World) (s : Nat) (ys : List (List DV)) (v : Value) (news : List Value) : Prop where
  src : Source P w s ys.length v news
  grid : Grid F w s ys news

theorem src_empty (s : Nat) (p : Option Addr) (c : Nat) : Src P F w s [] (.slice p 0 c) [] := by
  refine ⟨⟨fun w' _ => ⟨rfl, ?_⟩, by simp⟩, ⟨by simp, by simp, by simp, by simp⟩⟩
  cases p with
  | none => simp [Builtin.firstCells]
  | some b => simp [Builtin.firstCells, loadCells, loadCellsFrom]

theorem src_cells {s g o c n : Nat} (f : Nat → Value) (ys : List (List DV)) (hn : ys.length = n) (hcell : ∀ k, k < n * s → w.cell? ⟨g, o + k, none⟩ = some (f k)) (hel : ∀ x ∈ ys, x.length = s)
    (hrep : ∀ i j x d, ys[i]? = some x → x[j]? = some d → Rep F w d (f (i * s + j))) (h1 : ∀ k, k < n * s → (f k).oneCell' = true) : Src P F w s ys (.slice (some ⟨g, o, none⟩) n c) ((List.range (n * s)).map f) := by
  refine ⟨⟨fun w' hw => ⟨by rw [hn]; rfl, ?_⟩, by simp [hn]⟩, ⟨by simp [hn], hel, ?_, ?_⟩⟩
  · have h := run_firstCells_some (P := P) w' s n ⟨g, o, none⟩ n c ((List.range (n * s)).map f) (by simp) (fun j v hv => by
      obtain ⟨hj, rfl⟩ := range_map_get hv
      have e : w'.cell? ⟨g, o + j, none⟩ = w.cell? ⟨g, o + j, none⟩ := World.cell?_of_block (by rw [hw])
      rw [Addr.add_mid, e]
      exact hcell j hj)
    rw [hn]
    exact h
  · intro i j x d v hx hd hv
    obtain ⟨_, rfl⟩ := range_map_get hv
    exact hrep i j x d hx hd
  · intro j v hv
    obtain ⟨hj, rfl⟩ := range_map_get hv
    exact h1 j hj

theorem split_index {k n s : Nat} (h : k < n * s) : k / s < n ∧ k % s < s ∧ k / s * s + k % s = k := by
  have hs : 0 < s := by
    rcases Nat.eq_zero_or_pos s with rfl | h'
    · simp at h
    · exact h'
  refine ⟨?_, Nat.mod_lt _ hs, by rw [Nat.mul_comm]; exact Nat.div_add_mod k s⟩
  rw [Nat.div_lt_iff_lt_mul hs]
  exact h

theorem elems_src (hH : HRel J F w H) {x : AV} {v : Value} {s : Nat} {ys : List (List DV)} (hv : VRel J F w x v) (h : elems H s x = some ys) : ∃ news, Src P F w s ys v news := by
  unfold elems at h
  split at h
  · rename_i s' l
    split at h
    · rename_i hs
      cases h
      subst hs
      cases hv.inv_val with
      | sl0 => exact ⟨[], src_empty _ _ _⟩
      | sl _ _ g o c vals hel hc hsg hF hcell hrep =>
        refine ⟨_, src_cells (fun k => vals (k / s') (k % s')) ys rfl ?_ hel ?_ ?_⟩
        · intro k hk
          obtain ⟨h1, h2, h3⟩ := split_index hk
          have hx : ys[k / s']? = some ys[k / s'] := List.getElem?_eq_getElem h1
          have hl := hel _ (List.getElem_mem h1)
          have := hcell _ _ _ _ hx (List.getElem?_eq_getElem (show k % s' < ys[k / s'].length by omega))
          rw [h3] at this
          exact this
        · intro i j x d hx hd
          have hj : j < s' := by have := (List.getElem?_eq_some_iff.1 hd).1; rwa [hel x (List.mem_of_getElem? hx)] at this
          simp only [(divmod (i := i) hj).1, (divmod (i := i) hj).2]
          exact hrep i j x d hx hd
        · intro k hk
          obtain ⟨h1, h2, h3⟩ := split_index hk
          have hx : ys[k / s']? = some ys[k / s'] := List.getElem?_eq_getElem h1
          have hl := hel _ (List.getElem_mem h1)
          have hd : ys[k / s'][k % s']? = some _ := List.getElem?_eq_getElem (show k % s' < ys[k / s'].length by omega)
          exact (hrep _ _ _ _ hx hd).one (hsg _ (List.getElem_mem h1) _ (List.mem_of_getElem? hd))
    · cases h
  · cases h
    cases hv.inv_val
    exact ⟨[], src_empty _ _ _⟩
  · rename_i id s' o n
    split at h
    · rename_i hs
      subst hs
      have key : ∀ es : List (List DV), (H id = some (.row s' es) ∨ H id = some (.frow s' es)) → o + n ≤ es.length → ys = (es.drop o).take n → ∃ news, Src P F w s' ys v news := by
        intro es hb hn hys
        have hlen : ys.length = n := by rw [hys, List.length_take, List.length_drop]; omega
        by_cases h0 : n = 0
        · subst h0
          have : ys = [] := List.eq_nil_of_length_eq_zero hlen
          rw [this]
          cases hv with
          | row => exact ⟨[], src_empty _ _ _⟩
          | rowNil => exact ⟨[], src_empty _ _ _⟩
          | rowEnd => exact ⟨[], src_empty _ _ _⟩
          | rowDead => exact ⟨[], src_empty _ _ _⟩
        · have mk : ∀ g cap own (f : Nat → Nat → Value), J id = .live (some g) own s' cap → (∀ e ∈ es, e.length = s') → (∀ i j e d, es[i]? = some e → e[j]? = some d → w.cell? ⟨g, i * s' + j, none⟩ = some (f i j) ∧ Rep F w d (f i j) ∧ (f i j).oneCell' = true) →
              ∃ news, Src P F w s' ys v news := by
            intro g cap own f hJ hel hall
            cases hv with
            | row _ _ _ g' own' _ cap' hJ' hc' =>
              rw [hJ] at hJ'; cases hJ'
              have hel' : ∀ x ∈ ys, x.length = s' := by
                intro x hx
                rw [hys] at hx
                exact hel x (List.mem_of_mem_drop (List.mem_of_mem_take hx))
              have hget : ∀ i x, ys[i]? = some x → es[o + i]? = some x := by
                intro i x hx
                rw [hys] at hx
                exact (get_drop_take hx).2
              refine ⟨_, src_cells (fun k => f (o + k / s') (k % s')) ys hlen ?_ hel' ?_ ?_⟩
              · intro k hk
                obtain ⟨h1, h2, h3⟩ := split_index hk
                have hx : ys[k / s']? = some (ys[k / s']'(by omega)) := List.getElem?_eq_getElem (by omega)
                have hl := hel' _ (List.mem_of_getElem? hx)
                have := (hall _ _ _ _ (hget _ _ hx) (List.getElem?_eq_getElem (show k % s' < (ys[k / s']'(by omega)).length by omega))).1
                rw [← this]
                congr 2
                rw [Nat.add_mul, Nat.add_assoc, h3]
              · intro i j x d hx hd
                have hj : j < s' := by have := (List.getElem?_eq_some_iff.1 hd).1; rwa [hel' x (List.mem_of_getElem? hx)] at this
                simp only [(divmod (i := i) hj).1, (divmod (i := i) hj).2]
                exact (hall _ _ _ _ (hget _ _ hx) hd).2.1
              · intro k hk
                obtain ⟨h1, h2, h3⟩ := split_index hk
                have hx : ys[k / s']? = some (ys[k / s']'(by omega)) := List.getElem?_eq_getElem (by omega)
                have hl := hel' _ (List.mem_of_getElem? hx)
                exact (hall _ _ _ _ (hget _ _ hx) (List.getElem?_eq_getElem (show k % s' < (ys[k / s']'(by omega)).length by omega))).2.2
            | rowNil => exact absurd rfl h0
            | rowEnd => exact absurd rfl h0
            | rowDead _ _ _ _ _ _ hJ' => rw [hJ] at hJ'; cases hJ'
          rcases hb with hb | hb
          · cases hH.blk _ _ hb with
            | row _ _ g cap cur ty hJ hg hs hn' hm hel hc h1 =>
              refine mk g cap true (fun i j => cur.getD (i * s' + j) undef) hJ hel ?_
              intro i j e d he hd
              have hi : i < cap := by have := (List.getElem?_eq_some_iff.1 he).1; omega
              have hj : j < s' := by have := (List.getElem?_eq_some_iff.1 hd).1; rwa [hel e (List.mem_of_getElem? he)] at this
              have : (i + 1) * s' ≤ cap * s' := Nat.mul_le_mul_right _ hi
              rw [Nat.succ_mul] at this
              have hlt : i * s' + j < cur.size := by omega
              have hq : cur[i * s' + j]? = some (cur.getD (i * s' + j) undef) := by simp [Array.getD, hlt]
              exact ⟨by rw [cell_of_heap hg]; exact hq, hc _ _ _ _ _ he hd hq, h1 _ _ hq⟩
            | rowNil _ cap hJ => simp at hn; omega
          · cases hH.blk _ _ hb with
            | frow _ _ g own cap vals hJ hown hF hel hsg hn' hcell hrep =>
              refine mk g cap own vals hJ hel ?_
              intro i j e d he hd
              exact ⟨hcell _ _ _ _ he hd, hrep _ _ _ _ he hd, (hrep _ _ _ _ he hd).one (hsg e (List.mem_of_getElem? he) d (List.mem_of_getElem? hd))⟩
            | frowNil _ cap own hJ => simp at hn; omega
      split at h
      · rename_i s'' es hb
        split at h
        · rename_i hc
          cases h
          obtain ⟨rfl, hn⟩ := hc
          exact key es (.inl hb) hn rfl
        · cases h
      · rename_i s'' es hb
        split at h
        · rename_i hc
          cases h
          obtain ⟨rfl, hn⟩ := hc
          exact key es (.inr hb) hn rfl
        · cases h
      · cases h
    · cases h
  · cases h

theorem str_src (b : ByteArray) : Src P F w 1 (dBytes b) (.string b) (b.data.toList.map fun x => Value.int .u8 x.toNat) := by
  refine ⟨⟨fun w' _ => ⟨?_, ?_⟩, by simp [dBytes]⟩, ⟨by simp [dBytes], ?_, ?_, ?_⟩⟩
  · have : (dBytes b).length = b.size := by simp only [dBytes, List.length_map, Array.length_toList]; rfl
    rw [this]
    rfl
  · have : b.extract 0 (dBytes b).length = b := by
      simp only [dBytes, List.length_map, Array.length_toList]
      exact ByteArray.extract_zero_size
    simp only [Builtin.firstCells, this, Sem.run_pure]
    have e : Array.map (fun x : UInt8 => Value.int .u8 (x.toNat : Int)) b.data = (b.data.toList.map fun x => Value.int .u8 x.toNat).toArray := by rw [← List.map_toArray, Array.toArray_toList]
    rw [e]
  · intro x hx
    simp only [dBytes, List.mem_map] at hx
    obtain ⟨y, _, rfl⟩ := hx
    rfl
  · intro i j x d v hx hd hv
    simp only [dBytes, List.getElem?_map, Option.map_eq_some_iff] at hx
    obtain ⟨y, hy, rfl⟩ := hx
    cases j with
    | zero =>
      simp at hd
      subst hd
      simp only [Nat.mul_one, Nat.add_zero, List.getElem?_map, Option.map_eq_some_iff] at hv
      obtain ⟨z, hz, rfl⟩ := hv
      rw [hy] at hz
      cases hz
      exact .int _ _
    | succ j => simp at hd
  · intro j v hv
    simp only [List.getElem?_map, Option.map_eq_some_iff] at hv
    obtain ⟨z, _, rfl⟩ := hv
    rfl

end
end Go.AI
