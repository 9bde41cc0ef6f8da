/- What data values come to, in a call that takes them as data. -/
import Derived.Test.YtpolaeonmmolnaaAIm
namespace Go.AI
set_option linter.unusedVariables false
set_option linter.unusedSimpArgs false
section
variable {P : Program} {J : Id → JI} {F : Nat → Prop} {w : World} {H : Hp}

/-- What stays as it is, and blocks of one's own besides. -/
def With (J : Id → JI) (F : Nat → Prop) (ids : List Id) : Nat → Prop := fun g => F g ∨ ∃ id ∈ ids, ∃ s c, J id = .live (some g) true s c

theorem With.mono {ids ids' : List Id} (h : ∀ i ∈ ids, i ∈ ids') : ∀ g, With J F ids g → With J F ids' g := by
  rintro g (hg | ⟨id, hid, s, c, hj⟩)
  · exact .inl hg
  · exact .inr ⟨id, h id hid, s, c, hj⟩

theorem Rep.norm1 {d : DV} {v : Value} (h : Rep F w d v) : Rep F w d.norm1 v := by
  cases h with
  | nils s a => exact .sl0 s a 0
  | int k n => exact .int k n
  | bool b => exact .bool b
  | str s => exact .str s
  | sl0 s a c => exact .sl0 s a c
  | sl s l g o c vals hs hc h1 hF hcell hrep => exact .sl s l g o c vals hs hc h1 hF hcell hrep
  | pt cells g o vals hF hcell hrep => exact .pt cells g o vals hF hcell hrep
  | nilp => exact .nilp
  | nili => exact .nili
  | ifc t d v h => exact .ifc t d v h
  | fn f caps vs hl h => exact .fn f caps vs hl h
  | nilf => exact .nilf
  | agg l vs hl h => exact .agg l vs hl h
  | tup l vs hl h => exact .tup l vs hl h

theorem Rep.norm {d : DV} {v : Value} (h : Rep F w d v) : Rep F w d.norm v := by
  cases h with
  | agg l vs hl h =>
    refine .agg _ vs (by simpa using hl) ?_
    intro j d v h1 h2
    rw [List.getElem?_map] at h1
    cases hd : l[j]? with
    | none => rw [hd] at h1; simp at h1
    | some e => rw [hd] at h1; simp at h1; subst h1; exact (h j e v hd h2).norm1
  | nils s a => exact (Rep.nils s a).norm1
  | int k n => exact .int k n
  | bool b => exact .bool b
  | str s => exact .str s
  | sl0 s a c => exact .sl0 s a c
  | sl s l g o c vals hs hc h1 hF hcell hrep => exact .sl s l g o c vals hs hc h1 hF hcell hrep
  | pt cells g o vals hF hcell hrep => exact .pt cells g o vals hF hcell hrep
  | nilp => exact .nilp
  | nili => exact .nili
  | ifc t d v h => exact .ifc t d v h
  | fn f caps vs hl h => exact .fn f caps vs hl h
  | nilf => exact .nilf
  | tup l vs hl h => exact .tup l vs hl h

/-- Elements of a row, as a slice of data. -/
theorem row_slice (hH : HRel J F w H) {id : Id} {s o n : Nat} {v : Value} {es : List (List DV)} {ids : List Id} (hv : VRel J F w (.row id s o n) v) (hb : (H id = some (.row s es) ∧ id ∈ ids) ∨ H id = some (.frow s es)) (hn : o + n ≤ es.length) :
    Rep (With J F ids) w (.sl s ((es.drop o).take n)) v := by
  have hlen : ((es.drop o).take n).length = n := by rw [List.length_take, List.length_drop]; omega
  by_cases h0 : n = 0
  · subst h0
    rw [List.take_zero]
    cases hv with
    | row => exact .sl0 _ _ _
    | rowNil => exact .sl0 _ _ _
    | rowEnd => exact .sl0 _ _ _
    | rowDead => exact .sl0 _ _ _
  · have mk : ∀ g cap own, J id = .live (some g) own s cap → With J F ids g → ∀ vals : Nat → Nat → Value, (∀ e ∈ es, e.length = s) → (∀ e ∈ es, ∀ d ∈ e, DV.single d = true) → es.length ≤ cap →
        (∀ i j e d, es[i]? = some e → e[j]? = some d → w.cell? ⟨g, i * s + j, none⟩ = some (vals i j)) → (∀ i j e d, es[i]? = some e → e[j]? = some d → Rep F w d (vals i j)) → Rep (With J F ids) w (.sl s ((es.drop o).take n)) v := by
      intro g cap own hJ hg vals he hsg hc hcell hrep
      cases hv with
      | row _ _ _ g' own' s' cap' hJ' hc' =>
        rw [hJ] at hJ'
        cases hJ'
        have := Rep.sl (F := With J F ids) (w := w) s ((es.drop o).take n) g (o * s) (cap - o) (fun i j => vals (o + i) j) ?_ (by omega) ?_ hg ?_ ?_
        · rwa [hlen] at this
        · intro e hm
          obtain ⟨i, hi⟩ := List.getElem?_of_mem hm
          exact he e (List.mem_of_getElem? (get_drop_take hi).2)
        · intro e hm
          obtain ⟨i, hi⟩ := List.getElem?_of_mem hm
          exact hsg e (List.mem_of_getElem? (get_drop_take hi).2)
        · intro i j e d h1 h2
          have := hcell _ _ _ _ (get_drop_take h1).2 h2
          rw [← this]
          congr 2
          rw [Nat.add_mul]; omega
        · intro i j e d h1 h2
          exact (hrep _ _ _ _ (get_drop_take h1).2 h2).mono (fun g h => .inl h) (fun _ _ => rfl)
      | rowNil => exact absurd rfl h0
      | rowEnd => exact absurd rfl h0
      | rowDead _ _ _ _ _ _ hJ' => rw [hJ] at hJ'; cases hJ'
    rcases hb with ⟨hb, hid⟩ | hb
    · cases hH.blk _ _ hb with
      | row _ _ g cap cur ty hJ hg hs hn' hm hel hc h1 =>
        refine mk g cap true hJ (.inr ⟨id, hid, s, cap, hJ⟩) (fun i j => cur.getD (i * s + j) undef) hel ?_ hn' ?_ ?_
        · intro e he d hd
          obtain ⟨i, hi⟩ := List.getElem?_of_mem he
          obtain ⟨j, hj⟩ := List.getElem?_of_mem hd
          have hic : i < cap := by have := (List.getElem?_eq_some_iff.1 hi).1; omega
          have hjs : j < s := by have := (List.getElem?_eq_some_iff.1 hj).1; rwa [hel e he] at this
          have : (i + 1) * s ≤ cap * s := Nat.mul_le_mul_right _ hic
          rw [Nat.succ_mul] at this
          have hlt : i * s + j < cur.size := by omega
          have hq : cur[i * s + j]? = some (cur.getD (i * s + j) undef) := by simp [Array.getD, hlt]
          exact (hc _ _ _ _ _ hi hj hq).single (h1 _ _ hq)
        · intro i j e d he hd
          have hi : i < cap := by have := (List.getElem?_eq_some_iff.1 he).1; omega
          have hj : j < s := by have := (List.getElem?_eq_some_iff.1 hd).1; rwa [hel e (List.mem_of_getElem? he)] at this
          have : (i + 1) * s ≤ cap * s := Nat.mul_le_mul_right _ hi
          rw [Nat.succ_mul] at this
          have hlt : i * s + j < cur.size := by omega
          rw [cell_of_heap hg]
          simp [Array.getD, hlt]
        · intro i j e d he hd
          have hi : i < cap := by have := (List.getElem?_eq_some_iff.1 he).1; omega
          have hj : j < s := by have := (List.getElem?_eq_some_iff.1 hd).1; rwa [hel e (List.mem_of_getElem? he)] at this
          have : (i + 1) * s ≤ cap * s := Nat.mul_le_mul_right _ hi
          rw [Nat.succ_mul] at this
          have hlt : i * s + j < cur.size := by omega
          have : cur[i * s + j]? = some (cur.getD (i * s + j) undef) := by simp [Array.getD, hlt]
          exact hc _ _ _ _ _ he hd this
      | rowNil s' cap hJ => simp at hn; omega
    · cases hH.blk _ _ hb with
      | frow _ _ g own cap vals hJ hown hF hel hsg hn' hcell hrep => exact mk g cap own hJ (.inl hF) vals hel hsg hn' hcell hrep
      | frowNil s' cap own hJ => simp at hn; omega

theorem with_left {ids ids' : List Id} : ∀ g, With J F ids g → With J F (ids ++ ids') g := With.mono fun _ h => List.mem_append.2 (.inl h)
theorem with_right {ids ids' : List Id} : ∀ g, With J F ids' g → With J F (ids ++ ids') g := With.mono fun _ h => List.mem_append.2 (.inr h)
theorem with_cons {i : Id} {ids : List Id} : ∀ g, With J F ids g → With J F (i :: ids) g := With.mono fun _ h => List.mem_cons_of_mem _ h

theorem argD_rel (hH : HRel J F w H) : ∀ (k : Nat),
    (∀ x d ids v, argD H k x = some (d, ids) → VRel J F w x v → Rep (With J F ids) w d v) ∧
    (∀ l ds ids, argDs H k l = some (ds, ids) → ds.length = l.length ∧ ∀ (j : Nat) x d v, l[j]? = some x → ds[j]? = some d → VRel J F w x v → Rep (With J F ids) w d v) := by
  intro k
  induction k with
  | zero => exact ⟨fun x d ids v h => by simp [argD] at h, fun l ds ids h => by simp [argDs] at h⟩
  | succ k ih =>
    obtain ⟨ih1, ih2⟩ := ih
    refine ⟨?_, ?_⟩
    · intro x d ids v h hv
      unfold argD at h
      split at h
      · cases h
        exact (hv.inv_val.norm).mono (fun g hg => .inl hg) (fun _ _ => rfl)
      · rename_i id s o n
        split at h
        · rename_i s' es hb
          split at h
          · rename_i hc
            cases h
            obtain ⟨rfl, hn⟩ := hc
            exact row_slice hH hv (.inl ⟨hb, List.mem_singleton.2 rfl⟩) hn
          · cases h
        · rename_i s' es hb
          split at h
          · rename_i hc
            cases h
            obtain ⟨rfl, hn⟩ := hc
            exact row_slice hH hv (.inr hb) hn
          · cases h
        · cases h
      · rename_i l
        simp only [Option.map_eq_some_iff] at h
        obtain ⟨⟨ds, ids'⟩, hd, he⟩ := h
        cases he
        obtain ⟨hl, hr⟩ := ih2 l _ _ hd
        obtain ⟨vs, rfl, hvl, hvr⟩ := hv.toAgg
        refine .agg _ vs (by rw [hvl, hl]) ?_
        intro j d u h1 h2
        have hj : j < l.length := by rw [← hl]; exact (List.getElem?_eq_some_iff.1 h1).1
        exact hr j _ d u (List.getElem?_eq_getElem hj) h1 (hvr j _ u (List.getElem?_eq_getElem hj) h2)
      · rename_i f l
        simp only [Option.map_eq_some_iff] at h
        obtain ⟨⟨ds, ids'⟩, hd, he⟩ := h
        cases he
        obtain ⟨hl, hr⟩ := ih2 l _ _ hd
        cases hv with
        | clo _ _ vs hvl hvr =>
          refine .fn f _ vs (by rw [hvl, hl]) ?_
          intro j d u h1 h2
          have hj : j < l.length := by rw [← hl]; exact (List.getElem?_eq_some_iff.1 h1).1
          exact hr j _ d u (List.getElem?_eq_getElem hj) h1 (hvr j _ u (List.getElem?_eq_getElem hj) h2)
      · rename_i id o
        split at h
        · rename_i cells hb
          simp only [Option.map_eq_some_iff] at h
          obtain ⟨⟨ds, ids'⟩, hd, he⟩ := h
          cases he
          obtain ⟨hl, hr⟩ := ih2 cells _ _ hd
          cases hH.blk _ _ hb with
          | box _ g s cap cur e hJ hg hs hc h1 =>
            cases hv with
            | box _ _ g' own' s' cap' hJ' =>
              rw [hJ] at hJ'; cases hJ'
              have get : ∀ j d, (ds.drop o)[j]? = some d → ∃ x, cells[o + j]? = some x ∧ ds[o + j]? = some d ∧ cur[o + j]? = some (cur.getD (o + j) undef) := by
                intro j d hd
                rw [List.getElem?_drop] at hd
                have hj := (List.getElem?_eq_some_iff.1 hd).1
                have hlt : o + j < cur.size := by omega
                exact ⟨_, List.getElem?_eq_getElem (show o + j < cells.length by omega), hd, by simp [Array.getD, hlt]⟩
              refine .pt _ g o (fun j => cur.getD (o + j) undef) (.inr ⟨id, List.mem_cons_self .., s, cap, hJ⟩) ?_ ?_
              · intro j d hd
                obtain ⟨x, _, _, h3⟩ := get j d hd
                rw [cell_of_heap hg]; exact h3
              · intro j d hd
                obtain ⟨x, h1, h2, h3⟩ := get j d hd
                exact (hr _ x d _ h1 h2 (hc _ _ _ h1 h3)).mono with_cons (fun _ _ => rfl)
            | boxDead _ _ _ hJ' => rw [hJ] at hJ'; cases hJ'
        · rename_i cells hb
          cases h
          cases hH.blk _ _ hb with
          | fbox _ g own s cap vals hJ hown hF hcell hrep =>
            cases hv with
            | box _ _ g' own' s' cap' hJ' =>
              rw [hJ] at hJ'; cases hJ'
              refine .pt _ g o (fun j => vals (o + j)) (.inl hF) ?_ ?_
              · intro j d hd; rw [List.getElem?_drop] at hd; exact hcell _ _ hd
              · intro j d hd; rw [List.getElem?_drop] at hd; exact (hrep _ _ hd).mono (fun g h => .inl h) (fun _ _ => rfl)
            | boxDead _ _ _ hJ' => rw [hJ] at hJ'; cases hJ'
        · cases h
      · rename_i id i o
        split at h
        · rename_i s es hb
          simp only [Option.map_eq_some_iff] at h
          obtain ⟨e, he, hh⟩ := h
          cases hh
          cases hH.blk _ _ hb with
          | frow _ _ g own cap vals hJ hown hF hel hsg hn' hcell hrep =>
            cases hv with
            | elt _ _ _ g' own' s' cap' hJ' =>
              rw [hJ] at hJ'; cases hJ'
              refine .pt _ g _ (fun j => vals i (o + j)) (.inl hF) ?_ ?_
              · intro j d hd; rw [List.getElem?_drop] at hd; rw [Nat.add_assoc]; exact hcell _ _ _ _ he hd
              · intro j d hd; rw [List.getElem?_drop] at hd; exact (hrep _ _ _ _ he hd).mono (fun g h => .inl h) (fun _ _ => rfl)
            | eltDead _ _ _ _ hJ' => rw [hJ] at hJ'; cases hJ'
          | frowNil s' cap own hJ => simp at he
        · rename_i s es hb
          simp only [Option.map_eq_some_iff] at h
          obtain ⟨e, he, hh⟩ := h
          cases hh
          cases hH.blk _ _ hb with
          | row _ _ g cap cur ty hJ hg hs hn' hm hel hc h1 =>
            cases hv with
            | elt _ _ _ g' own' s' cap' hJ' =>
              rw [hJ] at hJ'; cases hJ'
              have hes : e.length = s := hel e (List.mem_of_getElem? he)
              have hi : i < cap := by have := (List.getElem?_eq_some_iff.1 he).1; omega
              have hlt : ∀ j, j < s → cur[i * s + j]? = some (cur.getD (i * s + j) undef) := by
                intro j hj
                have : (i + 1) * s ≤ cap * s := Nat.mul_le_mul_right _ hi
                rw [Nat.succ_mul] at this
                have : i * s + j < cur.size := by omega
                simp [Array.getD, this]
              refine .pt _ g _ (fun j => cur.getD (i * s + (o + j)) undef) (.inr ⟨id, List.mem_cons_self .., s, cap, hJ⟩) ?_ ?_
              · intro j d hd
                rw [List.getElem?_drop] at hd
                rw [Nat.add_assoc, cell_of_heap hg]
                exact hlt _ (by have := (List.getElem?_eq_some_iff.1 hd).1; omega)
              · intro j d hd
                rw [List.getElem?_drop] at hd
                exact (hc _ _ _ _ _ he hd (hlt _ (by have := (List.getElem?_eq_some_iff.1 hd).1; omega))).mono (fun g h => .inl h) (fun _ _ => rfl)
            | eltDead _ _ _ _ hJ' => rw [hJ] at hJ'; cases hJ'
          | rowNil s' cap hJ => simp at he
        · cases h
      · cases h
    · intro l ds ids h
      cases l with
      | nil => simp only [argDs, Option.some.injEq, Prod.mk.injEq] at h; obtain ⟨rfl, rfl⟩ := h; simp
      | cons x l =>
        simp only [argDs] at h
        split at h
        · cases h
          rename_i d a ds' b h1 h2
          obtain ⟨hl, hr⟩ := ih2 l _ _ h2
          refine ⟨by simp [hl], ?_⟩
          intro j y e v hy he hv
          cases j with
          | zero => simp at hy he; subst hy; subst he; exact (ih1 _ _ _ _ h1 hv).mono with_left (fun _ _ => rfl)
          | succ j => simp at hy he; exact (hr j y e v hy he hv).mono with_right (fun _ _ => rfl)
        · cases h

end
end Go.AI
