/- What lies in the blocks, and what stays as it is when something is done. -/
import Derived.Test.YtpolaeonmmolnaaAIk
namespace Go.AI
set_option linter.unusedVariables false
set_option linter.unusedSimpArgs false

/-- Blocks that are one's own. -/
def Own (J : Id → JI) (g : Nat) : Prop := ∃ id s cap, J id = .live (some g) true s cap

/-- The blocks have what they are said to have; no block has two names; what is one's own is not what stays as it is. -/
structure HRel (J : Id → JI) (F : Nat → Prop) (w : World) (H : Hp) : Prop where
  blk : ∀ id b, H id = some b → BRel J F w id b
  none : ∀ id, H id = .none → J id = .none
  inj : ∀ id id' g o s c o' s' c', J id = .live (some g) o s c → J id' = .live (some g) o' s' c' → id = id'
  own : ∀ g, Own J g → ¬ F g
  live : ∀ id g o s c, J id = .live (some g) o s c → g < w.heap.size
  fsz : ∀ g, F g → g < w.heap.size

/-- From one moment to a later one. -/
structure Ext (J : Id → JI) (F : Nat → Prop) (w : World) (J' : Id → JI) (F' : Nat → Prop) (w' : World) : Prop where
  le : ∀ id, (J id).le (J' id)
  fle : ∀ g, F g → F' g
  fnew : ∀ g, F' g → F g ∨ Own J g ∨ w.heap.size ≤ g
  onew : ∀ g, Own J' g → Own J g ∨ w.heap.size ≤ g
  heap : ∀ g, g < w.heap.size → ¬ Own J g → w'.heap[g]? = w.heap[g]?
  size : w.heap.size ≤ w'.heap.size
  os : w'.os = w.os
  tape : w'.tape = w.tape
  output : w'.output = w.output

section
variable {J J' J'' : Id → JI} {F F' F'' : Nat → Prop} {w w' w'' : World} {H : Hp}

theorem Ext.refl (J : Id → JI) (F : Nat → Prop) (w : World) : Ext J F w J F w :=
  ⟨fun _ => JI.le_refl _, fun _ h => h, fun _ h => .inl h, fun _ h => .inl h, fun _ _ _ => rfl, Nat.le_refl _, rfl, rfl, rfl⟩

theorem Ext.trans (h : Ext J F w J' F' w') (h' : Ext J' F' w' J'' F'' w'') : Ext J F w J'' F'' w'' where
  le id := JI.le_trans (h.le id) (h'.le id)
  fle g hg := h'.fle g (h.fle g hg)
  fnew g hg := by
    rcases h'.fnew g hg with h1 | h1 | h1
    · exact h.fnew g h1
    · rcases h.onew g h1 with h2 | h2
      · exact .inr (.inl h2)
      · exact .inr (.inr h2)
    · exact .inr (.inr (Nat.le_trans h.size h1))
  onew g hg := by
    rcases h'.onew g hg with h1 | h1
    · exact h.onew g h1
    · exact .inr (Nat.le_trans h.size h1)
  heap g hg ho := by
    rw [h'.heap g (Nat.lt_of_lt_of_le hg h.size) (fun h1 => by
      rcases h.onew g h1 with h2 | h2
      · exact ho h2
      · omega), h.heap g hg ho]
  size := Nat.le_trans h.size h'.size
  os := h'.os.trans h.os
  tape := h'.tape.trans h.tape
  output := h'.output.trans h.output

theorem HRel.fixed (h : HRel J F w H) (e : Ext J F w J' F' w') : ∀ g, F g → w'.heap[g]? = w.heap[g]? := fun g hg => e.heap g (h.fsz g hg) (fun ho => h.own g ho hg)

theorem VRel.ext {x : AV} {v : Value} (hv : VRel J F w x v) (h : HRel J F w H) (e : Ext J F w J' F' w') : VRel J' F' w' x v := hv.mono e.le e.fle (h.fixed e)

theorem Rep.ext {x : DV} {v : Value} (hv : Rep F w x v) (h : HRel J F w H) (e : Ext J F w J' F' w') : Rep F' w' x v := hv.mono e.fle (h.fixed e)

theorem ERel.ext {env : Env} {tmps : Array Value} (hv : ERel J F w env tmps) (h : HRel J F w H) (e : Ext J F w J' F' w') : ERel J' F' w' env tmps :=
  ⟨hv.1, fun t v h1 => (hv.2.1 t v h1).ext h e, hv.2.2⟩

/-- A block whose name stands for what it stood for has what it had. -/
theorem BRel.mono {id : Id} {b : Blk} (h : BRel J F w id b) (hJ : ∀ id, (J id).le (J' id)) (hid : J' id = J id) (hF : ∀ g, F g → F' g) (hw : ∀ g, F g → w'.heap[g]? = w.heap[g]?)
    (ho : ∀ g s c, J id = .live (some g) true s c → w'.heap[g]? = w.heap[g]?) : BRel J' F' w' id b := by
  cases h with
  | box cells g s cap cur e h hg hs hc h1 =>
    exact .box cells g s cap cur e (hid.trans h) ((ho _ _ _ h).trans hg) hs (fun j x v h2 h3 => (hc j x v h2 h3).mono hJ hF hw) h1
  | row s es g cap cur e h hg hs hn hm he hc h1 =>
    exact .row s es g cap cur e (hid.trans h) ((ho _ _ _ h).trans hg) hs hn hm he (fun i j x d v h2 h3 h4 => (hc i j x d v h2 h3 h4).mono hF hw) h1
  | rowNil s cap h => exact .rowNil s cap (hid.trans h)
  | fbox cells g own s cap vals h hown hFg hcell hrep =>
    exact .fbox cells g own s cap vals (hid.trans h) hown (hF g hFg) (fun j d h2 => by rw [World.cell?_of_block (a := ⟨g, j, none⟩) (hw g hFg)]; exact hcell j d h2) (fun j d h2 => (hrep j d h2).mono hF hw)
  | frow s es g own cap vals h hown hFg he hsg hn hcell hrep =>
    exact .frow s es g own cap vals (hid.trans h) hown (hF g hFg) he hsg hn (fun i j x d h2 h3 => by rw [World.cell?_of_block (a := ⟨g, i * s + j, none⟩) (hw g hFg)]; exact hcell i j x d h2 h3)
      (fun i j x d h2 h3 => (hrep i j x d h2 h3).mono hF hw)
  | frowNil s cap own h => exact .frowNil s cap own (hid.trans h)
  | dead h => exact .dead (hid.trans h)

/-- Names, with one more, or one that stands for something else. -/
def updJ (J : Id → JI) (id : Id) (x : JI) : Id → JI := fun i => if i = id then x else J i

theorem updJ_same (J : Id → JI) (id : Id) (x : JI) : updJ J id x id = x := by simp [updJ]
theorem updJ_other (J : Id → JI) {id i : Id} (x : JI) (h : i ≠ id) : updJ J id x i = J i := by simp [updJ, h]
theorem upd_same (H : Hp) (id : Id) (b : Option Blk) : upd H id b id = b := by simp [upd]
theorem upd_other (H : Hp) {id i : Id} (b : Option Blk) (h : i ≠ id) : upd H id b i = H i := by simp [upd, h]

theorem heap_alloc (w : World) (o : Obj) (g : Nat) (h : g < w.heap.size) : (w.alloc o).heap[g]? = w.heap[g]? := by
  simp only [World.alloc, Array.getElem?_push]
  rw [if_neg (by omega)]

/-- A world with one block more, or one drawn answer more. -/
theorem ext_drew (J : Id → JI) (F : Nat → Prop) (w : World) : Ext J F w J F w.drew :=
  ⟨fun _ => JI.le_refl _, fun _ h => h, fun _ h => .inl h, fun _ h => .inl h, fun _ _ _ => rfl, Nat.le_refl _, rfl, rfl, rfl⟩

theorem HRel.drew (h : HRel J F w H) : HRel J F w.drew H :=
  ⟨fun id b hb => (h.blk id b hb).mono (fun _ => JI.le_refl _) rfl (fun _ h => h) (fun _ _ => rfl) (fun _ _ _ _ => rfl), h.none, h.inj, h.own, h.live, h.fsz⟩

theorem own_upd {id : Id} {x : JI} {g : Nat} (h : Own (updJ J id x) g) : Own J g ∨ ∃ s c, x = .live (some g) true s c := by
  obtain ⟨i, s, c, hi⟩ := h
  by_cases e : i = id
  · subst e; rw [updJ_same] at hi; exact .inr ⟨s, c, hi⟩
  · rw [updJ_other _ _ e] at hi; exact .inl ⟨i, s, c, hi⟩

/-- A block that is new. -/
theorem alloc_new (h : HRel J F w H) (id : Id) (hid : H id = none) (o : Obj) (s c : Nat) (b : Blk)
    (hb : ∀ J' , J' = updJ J id (.live (some w.heap.size) true s c) → (∀ x v, VRel J F w x v → VRel J' F (w.alloc o) x v) → (∀ x v, Rep F w x v → Rep F (w.alloc o) x v) → BRel J' F (w.alloc o) id b) :
    HRel (updJ J id (.live (some w.heap.size) true s c)) F (w.alloc o) (upd H id (some b)) ∧ Ext J F w (updJ J id (.live (some w.heap.size) true s c)) F (w.alloc o) := by
  have hJn := h.none id hid
  have hle : ∀ i, (J i).le (updJ J id (.live (some w.heap.size) true s c) i) := by
    intro i
    by_cases e : i = id
    · subst e; rw [hJn]; exact trivial
    · rw [updJ_other _ _ e]; exact JI.le_refl _
  have hfix : ∀ g, F g → (w.alloc o).heap[g]? = w.heap[g]? := fun g hg => heap_alloc w o g (h.fsz g hg)
  refine ⟨⟨?_, ?_, ?_, ?_, ?_, ?_⟩, ⟨hle, fun _ h => h, fun _ h => .inl h, ?_, fun g hg _ => heap_alloc w o g hg, by simp, rfl, rfl, rfl⟩⟩
  · intro i bb hbb
    by_cases e : i = id
    · subst e
      rw [upd_same] at hbb
      cases hbb
      exact hb _ rfl (fun x v hv => hv.mono hle (fun _ h => h) hfix) (fun x v hv => hv.mono (fun _ h => h) hfix)
    · rw [upd_other _ _ e] at hbb
      exact (h.blk i bb hbb).mono hle (updJ_other _ _ e) (fun _ h => h) hfix (fun g s' c' hl => heap_alloc w o g (h.live _ _ _ _ _ hl))
  · intro i hi
    by_cases e : i = id
    · subst e; rw [upd_same] at hi; cases hi
    · rw [upd_other _ _ e] at hi; rw [updJ_other _ _ e]; exact h.none i hi
  · intro i i' g o1 s1 c1 o2 s2 c2 h1 h2
    by_cases e : i = id
    · by_cases e' : i' = id
      · rw [e, e']
      · subst e
        rw [updJ_same] at h1
        rw [updJ_other _ _ e'] at h2
        cases h1
        have := h.live _ _ _ _ _ h2
        omega
    · by_cases e' : i' = id
      · subst e'
        rw [updJ_same] at h2
        rw [updJ_other _ _ e] at h1
        cases h2
        have := h.live _ _ _ _ _ h1
        omega
      · rw [updJ_other _ _ e] at h1
        rw [updJ_other _ _ e'] at h2
        exact h.inj _ _ _ _ _ _ _ _ _ h1 h2
  · intro g hg
    rcases own_upd hg with h1 | ⟨s', c', h1⟩
    · exact h.own g h1
    · cases h1
      intro hF
      have := h.fsz _ hF
      omega
  · intro i g o1 s1 c1 h1
    by_cases e : i = id
    · subst e; rw [updJ_same] at h1; cases h1; simp
    · rw [updJ_other _ _ e] at h1; have := h.live _ _ _ _ _ h1; simp; omega
  · intro g hg; have := h.fsz g hg; simp; omega
  · intro g hg
    rcases own_upd hg with h1 | ⟨s', c', h1⟩
    · exact .inl h1
    · cases h1; exact .inr (Nat.le_refl _)

/-- A block that there is none of, since nothing was ever in it. -/
theorem nil_new (h : HRel J F w H) (id : Id) (hid : H id = none) (s c : Nat) :
    HRel (updJ J id (.live none true s c)) F w (upd H id (some (.row s []))) ∧ Ext J F w (updJ J id (.live none true s c)) F w := by
  have hJn := h.none id hid
  have hle : ∀ i, (J i).le (updJ J id (.live none true s c) i) := by
    intro i
    by_cases e : i = id
    · subst e; rw [hJn]; exact trivial
    · rw [updJ_other _ _ e]; exact JI.le_refl _
  have hown : ∀ g, Own (updJ J id (.live none true s c)) g → Own J g := by
    intro g hg
    rcases own_upd hg with h1 | ⟨s', c', h1⟩
    · exact h1
    · cases h1
  refine ⟨⟨?_, ?_, ?_, fun g hg => h.own g (hown g hg), ?_, h.fsz⟩, ⟨hle, fun _ h => h, fun _ h => .inl h, fun g hg => .inl (hown g hg), fun _ _ _ => rfl, Nat.le_refl _, rfl, rfl, rfl⟩⟩
  · intro i bb hbb
    by_cases e : i = id
    · subst e
      rw [upd_same] at hbb
      cases hbb
      exact .rowNil s c (updJ_same _ _ _)
    · rw [upd_other _ _ e] at hbb
      exact (h.blk i bb hbb).mono hle (updJ_other _ _ e) (fun _ h => h) (fun _ _ => rfl) (fun _ _ _ _ => rfl)
  · intro i hi
    by_cases e : i = id
    · subst e; rw [upd_same] at hi; cases hi
    · rw [upd_other _ _ e] at hi; rw [updJ_other _ _ e]; exact h.none i hi
  · intro i i' g o1 s1 c1 o2 s2 c2 h1 h2
    by_cases e : i = id
    · subst e; rw [updJ_same] at h1; cases h1
    · by_cases e' : i' = id
      · subst e'; rw [updJ_same] at h2; cases h2
      · rw [updJ_other _ _ e] at h1
        rw [updJ_other _ _ e'] at h2
        exact h.inj _ _ _ _ _ _ _ _ _ h1 h2
  · intro i g o1 s1 c1 h1
    by_cases e : i = id
    · subst e; rw [updJ_same] at h1; cases h1
    · rw [updJ_other _ _ e] at h1; exact h.live _ _ _ _ _ h1

end
end Go.AI
