/- What writes: stores. -/
import Derived.Test.YtpolaeonmmolnaaAIp
namespace Go.AI
set_option linter.unusedVariables false
set_option linter.unusedSimpArgs false
section
variable {P : Program} {J : Id → JI} {F : Nat → Prop} {w : World} {H : Hp} {ρ : Opd → AV} {a : Act}

/-- One's own block has other cells. -/
theorem set_own (hH : HRel J F w H) {b : Id} {g s c : Nat} (hJ : J b = .live (some g) true s c) {cur cur' : Array Value} {e : TypeId} (hg : w.heap[g]? = some (.cells cur e (0, 0))) (blk : Blk)
    (hb : (∀ x v, VRel J F w x v → VRel J F (w.setRow g cur') x v) → (∀ x v, Rep F w x v → Rep F (w.setRow g cur') x v) → (w.setRow g cur').heap[g]? = some (.cells cur' e (0, 0)) → BRel J F (w.setRow g cur') b blk) :
    HRel J F (w.setRow g cur') (upd H b (some blk)) ∧ Ext J F w J F (w.setRow g cur') := by
  have hsz : (w.setRow g cur').heap.size = w.heap.size := by simp [World.setRow]
  have hoth : ∀ k, k ≠ g → (w.setRow g cur').heap[k]? = w.heap[k]? := fun k hk => setRow_other w g k cur' hk
  have hown : Own J g := ⟨b, s, c, hJ⟩
  have hF : ∀ k, F k → (w.setRow g cur').heap[k]? = w.heap[k]? := fun k hk => hoth k (fun e => hH.own g hown (e ▸ hk))
  have hgl : g < w.heap.size := hH.live _ _ _ _ _ hJ
  refine ⟨⟨?_, ?_, hH.inj, hH.own, fun i k o s c h => by rw [hsz]; exact hH.live i k o s c h, fun k hk => by rw [hsz]; exact hH.fsz k hk⟩,
    ⟨fun _ => JI.le_refl _, fun _ h => h, fun _ h => .inl h, fun _ h => .inl h, fun k hk ho => hoth k (fun e => ho (e ▸ hown)), by rw [hsz]; exact Nat.le_refl _, rfl, rfl, rfl⟩⟩
  · intro i bb hbb
    by_cases e' : i = b
    · subst e'
      rw [upd_same] at hbb
      cases hbb
      exact hb (fun x v h => h.mono (fun _ => JI.le_refl _) (fun _ h => h) hF) (fun x v h => h.mono (fun _ h => h) hF) (setRow_heap w g cur cur' e _ hg)
    · rw [upd_other _ _ e'] at hbb
      refine (hH.blk i bb hbb).mono (fun _ => JI.le_refl _) rfl (fun _ h => h) hF (fun k s' c' hk => hoth k (fun e2 => ?_))
      subst e2
      exact e' (hH.inj _ _ _ _ _ _ _ _ _ hk hJ)
  · intro i hi
    by_cases e' : i = b
    · subst e'; rw [upd_same] at hi; cases hi
    · rw [upd_other _ _ e'] at hi; exact hH.none i hi

theorem splice_toArray (cur : Array Value) (o : Nat) (vs : List Value) : (cur.toList.take o ++ vs ++ cur.toList.drop (o + vs.length)).toArray = (splice cur.toList o vs).toArray := rfl

theorem storeAt_run {t : TypeId} {i : TypeInfo} (hi : P.info? t = some i) {g o : Nat} {v : Value} {cur : Array Value} {e : TypeId} (hg : w.heap[g]? = some (.cells cur e (0, 0))) (hl : v.cells.toList.length = i.size) (hfit : o + v.cells.toList.length ≤ cur.size)
    (h1 : ∀ u ∈ v.cells.toList, u.oneCell' = true) : (Instr.storeAt t (.pointer (some ⟨g, o, none⟩)) v).run P w = .ok () (w.setRow g (splice cur.toList o v.cells.toList).toArray) := by
  have := run_storeCells_at P g o e v.cells.toList 0 cur w hg (by simpa using hfit) h1
  simp only [Nat.add_zero] at this
  have hsz : ¬ (v.cells.size ≠ i.size) := by simpa using hl
  simp only [Instr.storeAt, Instr.sureAddr, storeVar, Sem.run_bind, Sem.run_pure, Result.andThen_ok, run_sizeOf hi, if_neg hsz, this, splice_toArray]

theorem mem_get {α : Type} {l : List α} {p : α → Prop} (h : ∀ (j : Nat) u, l[j]? = some u → p u) : ∀ u ∈ l, p u := by
  intro u hu
  obtain ⟨i, hi⟩ := List.getElem?_of_mem hu
  exact h i u hi

/-- A store into a variable of one's own. -/
theorem store_box (hH : HRel J F w H) {b : Id} {o : Nat} {cells cs : List AV} {t : TypeId} {i : TypeInfo} (hi : P.info? t = some i) {p v : Value} (hp : VRel J F w (.box b o) p) (hb : H b = some (.box cells))
    (hl : v.cells.toList.length = cs.length) (hr : ∀ (j : Nat) y u, cs[j]? = some y → v.cells.toList[j]? = some u → VRel J F w y u) (hsg : cs.all AV.single = true) (hn : cs.length = i.size) (hfit : o + cs.length ≤ cells.length) :
    ∃ w', (Instr.storeAt t p v).run P w = .ok () w' ∧ HRel J F w' (upd H b (some (.box (splice cells o cs)))) ∧ Ext J F w J F w' := by
  have hone : ∀ (j : Nat) u, v.cells.toList[j]? = some u → u.oneCell' = true := by
    intro j u hu
    have hj : j < cs.length := by rw [← hl]; exact (List.getElem?_eq_some_iff.1 hu).1
    exact (hr j _ u (List.getElem?_eq_getElem hj) hu).one (List.all_eq_true.1 hsg _ (List.getElem_mem hj))
  cases hH.blk _ _ hb with
  | box _ g s c cur e hJ hg hs hc h1 =>
    cases hp with
    | box _ _ g' own' s' c' hJ' =>
      rw [hJ] at hJ'; cases hJ'
      have hrun := storeAt_run (P := P) (o := o) hi hg (by rw [hl, hn]) (by rw [hl, hs]; exact hfit) (mem_get hone)
      obtain ⟨q1, q2⟩ := set_own hH hJ (cur' := (splice cur.toList o v.cells.toList).toArray) hg (.box (splice cells o cs)) (by
        intro hV hR hg'
        have hrel := splice_rel (J := J) (F := F) (w := w) (o := o) (l := cells) (xs := cs) (vs := cur.toList) (us := v.cells.toList) ⟨by simpa using hs, fun j y u h2 h3 => hc j y u h2 (by simpa using h3)⟩ ⟨hl, hr⟩ hfit
        refine .box _ g s c _ e hJ hg' ?_ ?_ ?_
        · simpa using hrel.1
        · intro j y u h2 h3
          exact hV y u (hrel.2 j y u h2 (by simpa using h3))
        · intro j u h2
          have h2 : (splice cur.toList o v.cells.toList)[j]? = some u := by simpa using h2
          rw [splice_get _ _ _ (by rw [hl]; simpa [hs] using hfit)] at h2
          split at h2
          · exact h1 j u (by simpa using h2)
          · split at h2
            · exact hone _ u h2
            · exact h1 j u (by simpa using h2))
      exact ⟨_, hrun, q1, q2⟩
    | boxDead _ _ _ hJ' => rw [hJ] at hJ'; cases hJ'

/-- A store into an element of one's own. -/
theorem store_elt (hH : HRel J F w H) {b : Id} {k o s : Nat} {es es' : List (List DV)} {ds : List DV} {t : TypeId} {i : TypeInfo} (hi : P.info? t = some i) {p v : Value} (hp : VRel J F w (.elt b k o) p) (hb : H b = some (.row s es))
    (hr : cellsRel F w ds v.cells.toList) (hone : ∀ (j : Nat) u, v.cells.toList[j]? = some u → u.oneCell' = true) (hn : ds.length = i.size) (hst : storeE es k o ds = some es') :
    ∃ w', (Instr.storeAt t p v).run P w = .ok () w' ∧ HRel J F w' (upd H b (some (.row s es'))) ∧ Ext J F w J F w' := by
  unfold storeE at hst
  split at hst
  · rename_i x hx
    split at hst
    · rename_i hfit
      cases hst
      cases hH.blk _ _ hb with
      | row _ _ g c cur e hJ hg hs hn' hm hel hc h1 =>
        cases hp with
        | elt _ _ _ g' own' s' c' hJ' =>
          rw [hJ] at hJ'; cases hJ'
          have hk : k < es.length := (List.getElem?_eq_some_iff.1 hx).1
          have hxs : x.length = s := hel x (List.mem_of_getElem? hx)
          have hks : k * s + s ≤ cur.size := by
            have : (k + 1) * s ≤ c * s := Nat.mul_le_mul_right _ (by omega)
            rw [Nat.succ_mul] at this
            omega
          have hfit' : k * s + o + v.cells.toList.length ≤ cur.toList.length := by rw [hr.1]; simp; omega
          have hrun := storeAt_run (P := P) (o := k * s + o) hi hg (by rw [hr.1, hn]) (by simpa using hfit') (mem_get hone)
          obtain ⟨q1, q2⟩ := set_own hH hJ (cur' := (splice cur.toList (k * s + o) v.cells.toList).toArray) hg (.row s (es.set k (splice x o ds))) (by
            intro hV hR hg'
            have hel' : ∀ y ∈ es.set k (splice x o ds), y.length = s := by
              intro y hy
              rcases List.mem_or_eq_of_mem_set hy with h | h
              · exact hel y h
              · rw [h, splice_length _ _ _ hfit, hxs]
            refine .row s _ g c _ e hJ hg' ?_ (by rw [List.length_set]; exact hn') hm hel' ?_ ?_
            · rw [List.size_toArray, splice_length _ _ _ hfit']; simpa using hs
            · intro i' j y d u h2 h3 h4
              have h4 : (splice cur.toList (k * s + o) v.cells.toList)[i' * s + j]? = some u := by simpa using h4
              have hj : j < s := by have := (List.getElem?_eq_some_iff.1 h3).1; rwa [hel' y (List.mem_of_getElem? h2)] at this
              rw [splice_get _ _ _ hfit'] at h4
              by_cases hik : i' = k
              · subst hik
                rw [List.getElem?_set_self hk] at h2
                cases h2
                rw [splice_get _ _ _ hfit] at h3
                by_cases hj1 : j < o
                · rw [if_pos hj1] at h3
                  rw [if_pos (by omega)] at h4
                  exact hR d u (hc i' j x d u hx h3 (by simpa using h4))
                · rw [if_neg hj1] at h3
                  rw [if_neg (by omega)] at h4
                  by_cases hj2 : j < o + ds.length
                  · rw [if_pos hj2] at h3
                    rw [if_pos (by rw [hr.1]; omega), show i' * s + j - (i' * s + o) = j - o by omega] at h4
                    exact hR d u (hr.2 _ d u h3 h4)
                  · rw [if_neg hj2] at h3
                    rw [if_neg (by rw [hr.1]; omega)] at h4
                    exact hR d u (hc i' j x d u hx h3 (by simpa using h4))
              · rw [List.getElem?_set_ne (by omega)] at h2
                have h5 : cur.toList[i' * s + j]? = some u := by
                  by_cases hlt : i' < k
                  · have : (i' + 1) * s ≤ k * s := Nat.mul_le_mul_right _ hlt
                    rw [Nat.succ_mul] at this
                    rwa [if_pos (by omega)] at h4
                  · have hgt : k < i' := by omega
                    have : (k + 1) * s ≤ i' * s := Nat.mul_le_mul_right _ hgt
                    rw [Nat.succ_mul] at this
                    rw [if_neg (by omega), if_neg (by rw [hr.1]; omega)] at h4
                    exact h4
                exact hR d u (hc i' j y d u h2 h3 (by simpa using h5))
            · intro j u h2
              have h2 : (splice cur.toList (k * s + o) v.cells.toList)[j]? = some u := by simpa using h2
              rw [splice_get _ _ _ hfit'] at h2
              split at h2
              · exact h1 j u (by simpa using h2)
              · split at h2
                · exact hone _ u h2
                · exact h1 j u (by simpa using h2))
          exact ⟨_, hrun, q1, q2⟩
        | eltDead _ _ _ _ hJ' => rw [hJ] at hJ'; cases hJ'
      | rowNil s' c hJ => simp at hx
    · cases hst
  · cases hst

end
end Go.AI
