/- What only computes yields what the abstract operation says. -/
import Derived.Test.YtpolaeonmmolnaaAIe
namespace Go.AI
set_option linter.unusedVariables false
set_option linter.unusedSimpArgs false
section
variable {P : Program} {J : Id → JI} {F : Nat → Prop} {w : World} {ρ : Opd → AV} {ρp : Bool → Opd → AV} {a : Act}

theorem datas_rel : ∀ {l : List AV} {ds : List DV} {vs : List Value}, datas l = some ds → (vs.length = l.length ∧ ∀ (j : Nat) y u, l[j]? = some y → vs[j]? = some u → VRel J F w y u) → cellsRel F w ds vs
  | [], ds, vs, h, hv => by simp [datas] at h; subst h; exact ⟨by simpa using hv.1, by simp⟩
  | x :: l, ds, vs, h, hv => by
    cases x with
    | val d =>
      simp only [datas, Option.map_eq_some_iff] at h
      obtain ⟨m, hm, rfl⟩ := h
      cases vs with
      | nil => have := hv.1; simp at this
      | cons v vs =>
        have := datas_rel (vs := vs) hm ⟨by simpa using hv.1, fun j y u h1 h2 => hv.2 (j + 1) y u (by simpa using h1) (by simpa using h2)⟩
        refine ⟨by simpa using this.1, ?_⟩
        intro j y u h1 h2
        cases j with
        | zero => simp at h1 h2; subst h1; subst h2; exact (hv.2 0 _ _ rfl rfl).inv_val
        | succ j => simp at h1 h2; exact this.2 j y u h1 h2
    | _ => simp [datas] at h

theorem dcells_rel {x : AV} {v : Value} {ds : List DV} (h : VRel J F w x v) (hd : x.dcells = some ds) : cellsRel F w ds v.cells.toList := by
  unfold AV.dcells at hd
  simp only [Option.bind_eq_some_iff] at hd
  obtain ⟨l, hl, hd⟩ := hd
  exact datas_rel hd (h.cells hl)

/-- One value or a row, out of cells. -/
theorem ofCells_rel {agg : Bool} {l : List AV} {x : AV} {vs : List Value} (h : ofCells agg l = some x) (hr : vs.length = l.length ∧ ∀ (j : Nat) y u, l[j]? = some y → vs[j]? = some u → VRel J F w y u) :
    if agg = true then VRel J F w x (.agg vs.toArray) else ∃ v, vs = [v] ∧ VRel J F w x v := by
  unfold ofCells at h
  cases agg
  · simp only [Bool.false_eq_true, if_false] at h ⊢
    split at h
    · cases h
      match vs, hr with
      | [v], hr => exact ⟨v, rfl, hr.2 0 _ _ rfl rfl⟩
    · cases h
  · simp only [if_true] at h ⊢
    cases h
    exact .agg _ _ hr.1 hr.2

theorem ofDCells_rel {agg : Bool} {l : List DV} {x : AV} {vs : List Value} (h : ofDCells agg l = some x) (hr : cellsRel F w l vs) :
    if agg = true then VRel J F w x (.agg vs.toArray) else ∃ v, vs = [v] ∧ VRel J F w x v := by
  unfold ofDCells at h
  cases agg
  · simp only [Bool.false_eq_true, if_false] at h ⊢
    split at h
    · cases h
      match vs, hr with
      | [v], hr => exact ⟨v, rfl, .val _ _ (hr.2 0 _ _ rfl rfl)⟩
    · cases h
  · simp only [if_true] at h ⊢
    cases h
    exact .val _ _ (.agg _ _ hr.1 hr.2)

theorem take_drop_rel {α : Type} {l : List α} {vs : List Value} {R : α → Value → Prop} (h : vs.length = l.length ∧ ∀ (j : Nat) y u, l[j]? = some y → vs[j]? = some u → R y u) (o n : Nat) :
    ((vs.drop o).take n).length = ((l.drop o).take n).length ∧ ∀ (j : Nat) y u, ((l.drop o).take n)[j]? = some y → ((vs.drop o).take n)[j]? = some u → R y u := by
  refine ⟨by simp only [List.length_take, List.length_drop, h.1], ?_⟩
  intro j y u h1 h2
  rw [List.getElem?_take] at h1 h2
  split at h1
  · rename_i hj
    rw [if_pos hj] at h2
    rw [List.getElem?_drop] at h1 h2
    exact h.2 _ _ _ h1 h2
  · cases h1

theorem part_cells {t : TypeId} {d : TypeDesc} (ht : P.underlying t = some d) {vs : List Value} {o : Nat} (ho : o + P.cellsOf t ≤ vs.length)
    {x : AV} (h : if isAggB P t = true then VRel J F w x (.agg ((vs.drop o).take (P.cellsOf t)).toArray) else ∃ v, (vs.drop o).take (P.cellsOf t) = [v] ∧ VRel J F w x v) :
    ∃ v, (part t vs.toArray o).run P w = .ok v w ∧ VRel J F w x v := by
  rw [run_part ht]
  cases ha : isAggB P t
  · rw [ha] at h
    simp only [Bool.false_eq_true, if_false] at h ⊢
    obtain ⟨v, hv, h⟩ := h
    refine ⟨v, ?_, h⟩
    have h0 : ((vs.drop o).take (P.cellsOf t))[0]? = some v := by rw [hv]; rfl
    rw [List.getElem?_take] at h0
    split at h0
    · rw [List.getElem?_drop, Nat.add_zero] at h0
      simp [h0]
    · cases h0
  · rw [ha] at h
    simp only [if_true] at h ⊢
    refine ⟨_, rfl, ?_⟩
    simpa [List.extract_toArray, List.extract_eq_take_drop] using h

theorem pick_rel {t : Bool} {x y : AV} {u v : Value} (hx : t = true → VRel J F w x u) (hy : t = false → VRel J F w y v) : VRel J F w (pickV t x y) (if t = true then u else v) := by
  unfold pickV
  cases t
  · simp only [Bool.false_eq_true, if_false]
    split
    · exact hy rfl
    · exact hy rfl
  · simp only [if_true]
    split
    · exact hx rfl
    · exact hx rfl

theorem minmax_run (gt : Bool) {k : IntKind} : ∀ {l : List AV} {vs : List Value} {n r : Int}, (vs.length = l.length ∧ ∀ (j : Nat) y u, l[j]? = some y → vs[j]? = some u → VRel J F w y u) → minmax gt n l = some r →
    (vs.foldlM (if gt = true then Builtin.max2 else Builtin.min2) (.int k n)).run P w = .ok (.int k r) w
  | [], vs, n, r, hv, h => by
    have : vs = [] := List.eq_nil_of_length_eq_zero (by simpa using hv.1)
    subst this
    simp only [minmax, Option.some.injEq] at h
    subst h
    rfl
  | x :: l, vs, n, r, hv, h => by
    cases vs with
    | nil => have := hv.1; simp at this
    | cons v vs =>
      unfold minmax at h
      split at h
      · rename_i h0; cases h0
      · rename_i b l' h0
        cases h0
        have hx := (hv.2 0 _ _ rfl rfl).int
        subst hx
        have := minmax_run gt (k := k) (l := l) (vs := vs) ⟨by simpa using hv.1, fun j y u h1 h2 => hv.2 (j + 1) y u (by simpa using h1) (by simpa using h2)⟩ h
        rw [List.foldlM_cons]
        cases gt
        · simpa [Builtin.min2] using this
        · simpa [Builtin.max2] using this
      · cases h

/-! ### Building a row out of parts -/
theorem splice_length {α : Type} (l : List α) (o : Nat) (xs : List α) (h : o + xs.length ≤ l.length) : (splice l o xs).length = l.length := by
  simp only [splice, List.length_append, List.length_take, List.length_drop]; omega

theorem splice_get {α : Type} (l : List α) (o : Nat) (xs : List α) (h : o + xs.length ≤ l.length) (j : Nat) :
    (splice l o xs)[j]? = if j < o then l[j]? else if j < o + xs.length then xs[j - o]? else l[j]? := by
  unfold splice
  by_cases h1 : j < o
  · rw [if_pos h1, List.append_assoc, List.getElem?_append_left (by rw [List.length_take]; omega), List.getElem?_take, if_pos h1]
  · rw [if_neg h1]
    by_cases h2 : j < o + xs.length
    · rw [if_pos h2, List.append_assoc, List.getElem?_append_right (by rw [List.length_take]; omega), List.getElem?_append_left (by rw [List.length_take]; omega), List.length_take]
      congr 1; omega
    · rw [if_neg h2, List.getElem?_append_right (by rw [List.length_append, List.length_take]; omega), List.length_append, List.length_take, List.getElem?_drop]
      congr 1; omega

theorem fill_list (xs : List Value) (o : Nat) : ∀ (k : Nat) (cs : List Value), o + k + xs.length ≤ cs.length →
    ((xs.zipIdx k).foldl (fun (cs : Array Value) (p : Value × Nat) => cs.setIfInBounds (o + p.2) p.1) cs.toArray).toList = splice cs (o + k) xs := by
  induction xs with
  | nil => intro k cs h; simp [splice]
  | cons v xs ih =>
    intro k cs h
    simp only [List.length_cons] at h
    simp only [List.zipIdx_cons, List.foldl_cons, List.setIfInBounds_toArray]
    rw [ih (k + 1) (cs.set (o + k) v) (by simp; omega)]
    apply List.ext_getElem?
    intro j
    rw [splice_get _ _ _ (by simp; omega), splice_get _ _ _ (by simp; omega)]
    simp only [List.length_cons]
    by_cases h1 : j < o + k
    · rw [if_pos (by omega), if_pos h1, List.getElem?_set_ne (by omega)]
    · by_cases h2 : j = o + k
      · subst h2
        rw [if_pos (by omega), if_neg (by omega), if_pos (by omega), List.getElem?_set_self (by omega)]
        simp
      · rw [if_neg (by omega), if_neg h1]
        by_cases h3 : j < o + k + (xs.length + 1)
        · rw [if_pos (by omega), if_pos h3, show j - (o + k) = (j - (o + (k + 1))) + 1 by omega, List.getElem?_cons_succ]
        · rw [if_neg (by omega), if_neg h3, List.getElem?_set_ne (by omega)]

theorem fill_cells (cs : List Value) (xs : List Value) (o : Nat) (h : o + xs.length ≤ cs.length) :
    (xs.toArray.zipIdx.foldl (fun (cs : Array Value) (p : Value × Nat) => cs.setIfInBounds (o + p.2) p.1) cs.toArray) = (splice cs o xs).toArray := by
  have := fill_list xs o 0 cs (by simpa using h)
  simp only [Nat.add_zero] at this
  rw [← this]
  rw [← Array.foldl_toList]
  simp

theorem splice_rel {l xs : List AV} {vs us : List Value} {o : Nat} (h : vs.length = l.length ∧ ∀ (j : Nat) y u, l[j]? = some y → vs[j]? = some u → VRel J F w y u)
    (h' : us.length = xs.length ∧ ∀ (j : Nat) y u, xs[j]? = some y → us[j]? = some u → VRel J F w y u) (ho : o + xs.length ≤ l.length) :
    (splice vs o us).length = (splice l o xs).length ∧ ∀ (j : Nat) y u, (splice l o xs)[j]? = some y → (splice vs o us)[j]? = some u → VRel J F w y u := by
  refine ⟨by rw [splice_length _ _ _ ho, splice_length _ _ _ (by rw [h'.1, h.1]; exact ho), h.1], ?_⟩
  intro j y u h1 h2
  rw [splice_get _ _ _ ho] at h1
  rw [splice_get _ _ _ (by rw [h'.1, h.1]; exact ho), h'.1] at h2
  split at h1
  · rename_i hj
    rw [if_pos hj] at h2
    exact h.2 _ _ _ h1 h2
  · rename_i hj
    rw [if_neg hj] at h2
    split at h1
    · rename_i hj
      rw [if_pos hj] at h2
      exact h'.2 _ _ _ h1 h2
    · rename_i hj
      rw [if_neg hj] at h2
      exact h.2 _ _ _ h1 h2

theorem parts_run (hr : ORel J F w ρ a) {place : Nat → Option (Nat × Nat)} : ∀ {ps : List (Nat × Operand)} {qs : List (Nat × Nat × Opd)} {l m : List AV} {vs : List Value}, cParts P place ps = some qs → parts ρ l qs = some m →
    (vs.length = l.length ∧ ∀ (j : Nat) y u, l[j]? = some y → vs[j]? = some u → VRel J F w y u) →
    ∃ us : List Value, Instr.fill place vs.toArray (ps.map fun (i, x) => (i, a.eval x)) = some us.toArray ∧ (us.length = m.length ∧ ∀ (j : Nat) y u, m[j]? = some y → us[j]? = some u → VRel J F w y u)
  | [], qs, l, m, vs, hc, hp, hv => by
    simp [cParts] at hc
    subst hc
    simp only [parts, Option.some.injEq] at hp
    subst hp
    exact ⟨vs, rfl, hv⟩
  | (i, x) :: ps, qs, l, m, vs, hc, hp, hv => by
    simp only [cParts] at hc
    split at hc
    · cases hc
      rename_i o n y q h1 h2 h3
      simp only [parts] at hp
      split at hp
      · rename_i xs hx
        split at hp
        · rename_i hb
          have hcx := (hr.ev h2).cells hx
          have hlen : o + (a.eval x).cells.toList.length ≤ vs.length := by rw [hcx.1, hv.1, hb.1]; exact hb.2
          have hs := splice_rel (o := o) hv hcx (by rw [hb.1]; exact hb.2)
          obtain ⟨us, hu, hU⟩ := parts_run hr h3 hp hs
          refine ⟨us, ?_, hU⟩
          have hsz : (a.eval x).cells.size = n := by rw [← hb.1, ← hcx.1]; simp
          simp only [List.map_cons, Instr.fill, h1]
          rw [if_neg (by simp only [hsz, ne_eq, not_true_eq_false, Bool.or_eq_true, decide_eq_true_eq, false_or]; simp; rw [hv.1]; omega)]
          have hf := fill_cells vs (a.eval x).cells.toList o hlen
          rw [Array.toArray_toList] at hf
          rw [hf]
          exact hu
        · cases hp
      · cases hp
    · cases hc

end
end Go.AI
