/- Blocks that stay as they are from some moment on; contracts; calls that take data. -/
import Derived.Test.YtpolaeonmmolnaaAIn
namespace Go.AI
set_option linter.unusedVariables false
set_option linter.unusedSimpArgs false
section
variable {P : Program} {J : Id → JI} {F : Nat → Prop} {w : World} {H : Hp}

def JI.unown : JI → JI
  | .live g _ s c => .live g false s c
  | x => x

def fixJ (J : Id → JI) (ids : List Id) : Id → JI := fun i => if ids.contains i then (J i).unown else J i

theorem unown_le (x : JI) : x.le x.unown := by cases x <;> simp [JI.le, JI.unown]

theorem fixJ_le (ids : List Id) (i : Id) : (J i).le (fixJ J ids i) := by
  unfold fixJ
  split
  · exact unown_le _
  · exact JI.le_refl _

theorem fixJ_live {ids : List Id} {i : Id} {g : Option Nat} {o : Bool} {s c : Nat} (h : fixJ J ids i = .live g o s c) : ∃ o', J i = .live g o' s c ∧ (o = true → o' = true ∧ ids.contains i = false) := by
  unfold fixJ at h
  split at h
  · rename_i hc
    cases hj : J i with
    | live g' o' s' c' => rw [hj] at h; simp only [JI.unown, JI.live.injEq] at h; obtain ⟨rfl, rfl, rfl, rfl⟩ := h; exact ⟨o', rfl, by simp⟩
    | none => rw [hj] at h; simp [JI.unown] at h
    | dead => rw [hj] at h; simp [JI.unown] at h
  · rename_i hc
    exact ⟨o, h, fun ho => ⟨ho, by simpa using hc⟩⟩

theorem BRel.fixed {id : Id} {b : Blk} {ids : List Id} (hH : HRel J F w H) (hb : H id = some b) (hid : ids.contains id = true) (hok : okFix H ids id = true) : ∃ b', fixB H (H id) = some b' ∧ BRel (fixJ J ids) (With J F ids) w id b' := by
  have hJ' : fixJ J ids id = (J id).unown := by unfold fixJ; rw [if_pos hid]
  have hmem : id ∈ ids := by simpa using hid
  have h := hH.blk id b hb
  rw [hb]
  cases h with
  | row s es g cap cur e h hg hs hn hm he hc h1 =>
    refine ⟨_, rfl, ?_⟩
    have hlt : ∀ i j e d, es[i]? = some e → e[j]? = some d → cur[i * s + j]? = some (cur.getD (i * s + j) undef) := by
      intro i j e d h2 h3
      have hi : i < cap := by have := (List.getElem?_eq_some_iff.1 h2).1; omega
      have hj : j < s := by have := (List.getElem?_eq_some_iff.1 h3).1; rwa [he e (List.mem_of_getElem? h2)] at this
      have : (i + 1) * s ≤ cap * s := Nat.mul_le_mul_right _ hi
      rw [Nat.succ_mul] at this
      have hlt : i * s + j < cur.size := by omega
      simp [Array.getD, hlt]
    refine .frow s es g false cap (fun i j => cur.getD (i * s + j) undef) (by rw [hJ', h]; rfl) rfl (.inr ⟨id, hmem, s, cap, h⟩) he ?_ hn ?_ ?_
    · intro e hm d hd
      obtain ⟨i, hi⟩ := List.getElem?_of_mem hm
      obtain ⟨j, hj⟩ := List.getElem?_of_mem hd
      exact (hc _ _ _ _ _ hi hj (hlt i j e d hi hj)).single (h1 _ _ (hlt i j e d hi hj))
    · intro i j e d h2 h3
      rw [cell_of_heap hg]
      exact hlt i j e d h2 h3
    · intro i j e d h2 h3
      exact (hc _ _ _ _ _ h2 h3 (hlt i j e d h2 h3)).mono (fun g h => .inl h) (fun _ _ => rfl)
  | rowNil s cap h => exact ⟨_, rfl, .frowNil s cap false (by rw [hJ', h]; rfl)⟩
  | box cells g s cap cur e h hg hs hc h1 =>
    unfold okFix at hok
    rw [hb] at hok
    simp only [] at hok
    split at hok
    · rename_i ds more hd
      obtain ⟨hl, hr⟩ := (argD_rel hH 99).2 _ _ _ hd
      refine ⟨.fbox ds, by simp [fixB, hd], ?_⟩
      have get : ∀ j d, ds[j]? = some d → ∃ x, cells[j]? = some x ∧ cur[j]? = some (cur.getD j undef) := by
        intro j d hd
        have hj := (List.getElem?_eq_some_iff.1 hd).1
        have hlt : j < cur.size := by omega
        exact ⟨_, List.getElem?_eq_getElem (show j < cells.length by omega), by simp [Array.getD, hlt]⟩
      refine .fbox ds g false s cap (fun j => cur.getD j undef) (by rw [hJ', h]; rfl) rfl (.inr ⟨id, hmem, s, cap, h⟩) ?_ ?_
      · intro j d hd
        obtain ⟨x, _, h3⟩ := get j d hd
        rw [cell_of_heap hg]; exact h3
      · intro j d hd
        obtain ⟨x, h2, h3⟩ := get j d hd
        refine (hr j x d _ h2 hd (hc _ _ _ h2 h3)).mono (With.mono ?_) (fun _ _ => rfl)
        intro i hi
        have := List.all_eq_true.1 hok i hi
        simpa using this
    · cases hok
  | fbox cells g own s cap vals h hown hF hcell hrep =>
    exact ⟨_, rfl, .fbox cells g false s cap vals (by rw [hJ', h]; rfl) rfl (.inl hF) hcell (fun j d hd => (hrep j d hd).mono (fun g h => .inl h) (fun _ _ => rfl))⟩
  | frow s es g own cap vals h hown hF he hsg hn hcell hrep =>
    exact ⟨_, rfl, .frow s es g false cap vals (by rw [hJ', h]; rfl) rfl (.inl hF) he hsg hn hcell (fun i j e d h2 h3 => (hrep i j e d h2 h3).mono (fun g h => .inl h) (fun _ _ => rfl))⟩
  | frowNil s cap own h => exact ⟨_, rfl, .frowNil s cap false (by rw [hJ', h]; rfl)⟩
  | dead h => exact ⟨_, rfl, .dead (by rw [hJ', h]; rfl)⟩

/-- Blocks that stay as they are from now on. -/
theorem fix_sound (hH : HRel J F w H) {ids : List Id} {H' : Hp} (hf : fix H ids = some H') : ∃ J' F', HRel J' F' w H' ∧ Ext J F w J' F' w ∧ ∀ g, With J F ids g → F' g := by
  cases ids with
  | nil =>
    simp only [fix, Option.some.injEq] at hf
    subst hf
    exact ⟨J, F, hH, Ext.refl _ _ _, fun g hg => hg.elim id (fun ⟨_, h, _⟩ => by cases h)⟩
  | cons id0 ids0 =>
    generalize hids : id0 :: ids0 = ids at hf
    have hf' : ids.all (okFix H ids) = true ∧ H' = fun i => if ids.contains i then fixB H (H i) else H i := by
      subst hids
      simp only [fix] at hf
      split at hf
      · cases hf; exact ⟨by assumption, rfl⟩
      · cases hf
    obtain ⟨hok, rfl⟩ := hf'
    have hown : ∀ g, Own (fixJ J ids) g → ∃ i s c, J i = .live (some g) true s c ∧ ids.contains i = false := by
      rintro g ⟨i, s, c, hi⟩
      obtain ⟨o', h1, h2⟩ := fixJ_live hi
      obtain ⟨rfl, h3⟩ := h2 rfl
      exact ⟨i, s, c, h1, h3⟩
    refine ⟨fixJ J ids, With J F ids, ⟨?_, ?_, ?_, ?_, ?_, ?_⟩, ⟨fixJ_le ids, fun g h => .inl h, ?_, ?_, fun _ _ _ => rfl, Nat.le_refl _, rfl, rfl, rfl⟩, fun g hg => hg⟩
    · intro i b hb
      replace hb : (if ids.contains i = true then fixB H (H i) else H i) = some b := hb
      split at hb
      · rename_i hc
        cases hi : H i with
        | none => rw [hi] at hb; simp [fixB] at hb
        | some b0 =>
          have hmem : i ∈ ids := by simpa using hc
          obtain ⟨b', h1, h2⟩ := BRel.fixed hH hi hc (List.all_eq_true.1 hok i hmem)
          rw [h1] at hb
          cases hb
          exact h2
      · rename_i hc
        refine (hH.blk i b hb).mono (fixJ_le ids) ?_ (fun g h => .inl h) (fun _ _ => rfl) (fun _ _ _ _ => rfl)
        simp only [fixJ]
        rw [if_neg hc]
    · intro i hi
      replace hi : (if ids.contains i = true then fixB H (H i) else H i) = none := hi
      split at hi
      · rename_i hc
        cases hi' : H i with
        | none => have := hH.none i hi'; simp only [fixJ]; rw [if_pos hc, this]; rfl
        | some b0 =>
          have hmem : i ∈ ids := by simpa using hc
          obtain ⟨b', h1, h2⟩ := BRel.fixed hH hi' hc (List.all_eq_true.1 hok i hmem)
          rw [h1] at hi
          cases hi
      · rename_i hc
        have := hH.none i hi
        simp only [fixJ]
        rw [if_neg hc, this]
    · intro i i' g o s c o' s' c' h1 h2
      obtain ⟨_, h1, _⟩ := fixJ_live h1
      obtain ⟨_, h2, _⟩ := fixJ_live h2
      exact hH.inj _ _ _ _ _ _ _ _ _ h1 h2
    · intro g hg hw
      obtain ⟨i, s, c, h1, h2⟩ := hown g hg
      rcases hw with hw | ⟨i', hi', s', c', h3⟩
      · exact hH.own g ⟨i, s, c, h1⟩ hw
      · have := hH.inj _ _ _ _ _ _ _ _ _ h1 h3
        subst this
        have : ids.contains i = true := by simpa using hi'
        rw [h2] at this
        cases this
    · intro i g o s c h1
      obtain ⟨_, h1, _⟩ := fixJ_live h1
      exact hH.live _ _ _ _ _ h1
    · rintro g (hg | ⟨i, _, s, c, h1⟩)
      · exact hH.fsz g hg
      · exact hH.live _ _ _ _ _ h1
    · rintro g (hg | ⟨i, _, s, c, h1⟩)
      · exact .inl hg
      · exact .inr (.inl ⟨i, s, c, h1⟩)
    · intro g hg
      obtain ⟨i, s, c, h1, _⟩ := hown g hg
      exact .inl ⟨i, s, c, h1⟩

/-! ### Contracts -/

/-- A call of it enters a body. -/
def Enters (P : Program) (f : FuncId) : Prop := ∃ fn, P.funcs[f]? = some fn ∧ (fn.name == "runtime.NumGoroutine") = false ∧ fn.body.isNone = false

/-- A later world, in which the old blocks are as they were. -/
structure Grown (w w' : World) : Prop where
  heap : ∀ g, g < w.heap.size → w'.heap[g]? = w.heap[g]?
  size : w.heap.size ≤ w'.heap.size
  os : w'.os = w.os
  tape : w'.tape = w.tape
  output : w'.output = w.output

def RepL (F : Nat → Prop) (w : World) (ds : List DV) (vs : List Value) : Prop := vs.length = ds.length ∧ ∀ (j : Nat) d v, ds[j]? = some d → vs[j]? = some v → Rep F w d v

/-- It answers data of data, and changes nothing that there was. -/
def ValOk (P : Program) (f : FuncId) (spec : List DV → Option DV) : Prop :=
  Enters P f ∧ ∀ ds r, spec ds = some r → ∀ (F : Nat → Prop) (w : World) (vs : List Value), RepL F w ds vs → (∀ g, F g → g < w.heap.size) →
    Calls P f vs.toArray w fun e w' => ∃ v F', e = .returned v ∧ Rep F' w' r v ∧ (∀ g, F' g → F g ∨ w.heap.size ≤ g) ∧ (∀ g, F' g → g < w'.heap.size) ∧ Grown w w'

/-- It makes a row anew, of data. -/
def FreshOk (P : Program) (f : FuncId) (s : Nat) (spec : List DV → Option (List (List DV))) : Prop :=
  Enters P f ∧ ∀ ds es, spec ds = some es → ∀ (F : Nat → Prop) (w : World) (vs : List Value), RepL F w ds vs → (∀ g, F g → g < w.heap.size) →
    Calls P f vs.toArray w fun e w' => ∃ v, e = .returned v ∧ Grown w w' ∧ ((es = [] ∧ ∃ p, v = .slice p 0 0) ∨ ∃ g cap cur e', v = .slice (some ⟨g, 0, none⟩) es.length cap ∧ w.heap.size ≤ g ∧ w'.heap[g]? = some (.cells cur e' (0, 0)) ∧
      cur.size = cap * s ∧ es.length ≤ cap ∧ cap ≤ maxLen ∧ (∀ x ∈ es, x.length = s) ∧ (∀ (i j : Nat) x d v, es[i]? = some x → x[j]? = some d → cur[i * s + j]? = some v → Rep F w' d v) ∧ ∀ (j : Nat) v, cur[j]? = some v → v.oneCell' = true)

/-- It works on values and blocks as they are. -/
def SharedOk (P : Program) (f : FuncId) (spec : Id → List AV → Hp → Option (AV × Hp)) : Prop :=
  Enters P f ∧ ∀ ns avs H x H', spec ns avs H = some (x, H') → ∀ (J : Id → JI) (F : Nat → Prop) (w : World) (vs : List Value), HRel J F w H →
    (vs.length = avs.length ∧ ∀ (j : Nat) y v, avs[j]? = some y → vs[j]? = some v → VRel J F w y v) →
    Calls P f vs.toArray w fun e w' => ∃ v J' F', e = .returned v ∧ VRel J' F' w' x v ∧ HRel J' F' w' H' ∧ Ext J F w J' F' w'

def ConOk (P : Program) (C : FuncId → Con) : Prop := ∀ f, match C f with
  | .none => True
  | .val spec => ValOk P f spec
  | .fresh s spec => FreshOk P f s spec
  | .shared spec => SharedOk P f spec

/-- What a step does. -/
def Does (P : Program) (J : Id → JI) (F : Nat → Prop) (w : World) (a : Act) (o : Oper) (x : AV) (H' : Hp) : Prop :=
  ∀ Q, o.wp P a w (fun a' w' => ∃ v J' F', a' = a.put o.dst v ∧ VRel J' F' w' x v ∧ HRel J' F' w' H' ∧ Ext J F w J' F' w') Q

theorem Yields.does (hH : HRel J F w H) {a : Act} {o : Oper} {x : AV} (h : Yields P J F w a o x) : Does P J F w a o x H := by
  intro Q
  obtain ⟨v, hr, hv⟩ := h
  unfold Oper.wp
  rw [hr]
  exact ⟨v, J, F, rfl, hv, hH, Ext.refl _ _ _⟩

theorem does_run {a : Act} {o : Oper} {x : AV} {H' : Hp} {v : Value} {w' : World} {J' : Id → JI} {F' : Nat → Prop} (hr : (execOp a.eval o).run P w = .ok (.value v) w') (hv : VRel J' F' w' x v) (hH : HRel J' F' w' H') (he : Ext J F w J' F' w') : Does P J F w a o x H' := by
  intro Q
  unfold Oper.wp
  rw [hr]
  exact ⟨v, J', F', rfl, hv, hH, he⟩

theorem does_skip {a : Act} {o : Oper} {H' : Hp} {w' : World} {J' : Id → JI} {F' : Nat → Prop} (hr : (execOp a.eval o).run P w = .ok .skip w') (hH : HRel J' F' w' H') (he : Ext J F w J' F' w') : Does P J F w a o (.val (.tup [])) H' := by
  intro Q
  unfold Oper.wp
  rw [hr]
  refine ⟨undef, J', F', rfl, .val _ _ ?_, hH, he⟩
  exact Rep.tup [] [] rfl (by simp)

theorem Rep.flat {d : DV} {v : Value} (h : Rep F w d v) (hd : d.flat = true) {F' : Nat → Prop} {w' : World} : Rep F' w' d v := by
  have sc : ∀ {d : DV} {v : Value}, Rep F w d v → d.scalar = true → Rep F' w' d v := fun h hs => h.scalar hs
  have ag : ∀ {l : List DV} {v : Value}, Rep F w (.agg l) v → l.all DV.scalar = true → Rep F' w' (.agg l) v := by
    intro l v h hl
    cases h with
    | agg _ vs hvl hr => exact .agg l vs hvl (fun j d u h1 h2 => sc (hr j d u h1 h2) (List.all_eq_true.1 hl d (List.mem_of_getElem? h1)))
  cases d with
  | agg l => exact ag h hd
  | tup l =>
    cases h with
    | tup _ vs hvl hr =>
      refine .tup l vs hvl (fun j d u h1 h2 => ?_)
      have := List.all_eq_true.1 hd d (List.mem_of_getElem? h1)
      cases d with
      | agg m => exact ag (hr j _ u h1 h2) this
      | _ => exact sc (hr j _ u h1 h2) this
  | _ => exact sc h hd

theorem grown_ext {w' : World} {F' : Nat → Prop} (hH : HRel J F w H) (hg : Grown w w') (hF : ∀ g, F' g → F g ∨ w.heap.size ≤ g) (hsz : ∀ g, F' g → g < w'.heap.size) :
    HRel J (fun g => F g ∨ F' g) w' H ∧ Ext J F w J (fun g => F g ∨ F' g) w' := by
  have hle : ∀ g, F g → F g ∨ F' g := fun g h => .inl h
  refine ⟨⟨?_, hH.none, hH.inj, ?_, fun i g o s c h => Nat.lt_of_lt_of_le (hH.live i g o s c h) hg.size, ?_⟩, ⟨fun _ => JI.le_refl _, hle, ?_, fun g h => .inl h, fun g h _ => hg.heap g h, hg.size, hg.os, hg.tape, hg.output⟩⟩
  · intro i b hb
    exact (hH.blk i b hb).mono (fun _ => JI.le_refl _) rfl hle (fun g h => hg.heap g (hH.fsz g h)) (fun g s c h => hg.heap g (hH.live _ _ _ _ _ h))
  · rintro g ho (h | h)
    · exact hH.own g ho h
    · rcases hF g h with h | h
      · exact hH.own g ho h
      · obtain ⟨i, s, c, hi⟩ := ho
        have := hH.live _ _ _ _ _ hi
        omega
  · rintro g (h | h)
    · exact Nat.lt_of_lt_of_le (hH.fsz g h) hg.size
    · exact hsz g h
  · rintro g (h | h)
    · exact .inl h
    · exact (hF g h).elim .inl (fun h => .inr (.inr h))

/-- **A call that takes data and answers data.** -/
theorem callD_sound (hH : HRel J F w H) {f : FuncId} {spec : List DV → Option DV} (hok : ValOk P f spec) {avs : List AV} {vs : List Value} (hv : vs.length = avs.length ∧ ∀ (j : Nat) y v, avs[j]? = some y → vs[j]? = some v → VRel J F w y v)
    {x : AV} {ids : List Id} {H' : Hp} (hc : callD spec H avs = some (x, ids)) (hf : fix H ids = some H') :
    Calls P f vs.toArray w fun e w' => ∃ v J' F', e = .returned v ∧ VRel J' F' w' x v ∧ HRel J' F' w' H' ∧ Ext J F w J' F' w' := by
  unfold callD at hc
  split at hc
  · rename_i ds ids' hd
    split at hc
    · rename_i r hr
      simp only [Option.some.injEq, Prod.mk.injEq] at hc
      obtain ⟨rfl, hids⟩ := hc
      obtain ⟨hl, hrep⟩ := (argD_rel hH 99).2 _ _ _ hd
      have hargs : RepL (With J F ids') w ds vs := by
        refine ⟨by rw [hv.1, hl], fun j d v h1 h2 => ?_⟩
        have hj : j < avs.length := by rw [← hl]; exact (List.getElem?_eq_some_iff.1 h1).1
        exact hrep j _ d v (List.getElem?_eq_getElem hj) h1 (hv.2 j _ v (List.getElem?_eq_getElem hj) h2)
      have hsz : ∀ g, With J F ids' g → g < w.heap.size := by
        rintro g (hg | ⟨i, _, s, c, h1⟩)
        · exact hH.fsz g hg
        · exact hH.live _ _ _ _ _ h1
      have hcall := hok.2 ds r hr _ w vs hargs hsz
      by_cases hflat : r.flat = true
      · rw [if_pos hflat] at hids
        subst hids
        simp only [fix, Option.some.injEq] at hf
        subst hf
        refine hcall.mono ?_
        rintro e w' ⟨v, F', he, hv', hF', hsz', hg⟩
        obtain ⟨h1, h2⟩ := grown_ext (F' := fun _ => False) hH hg (by simp) (by simp)
        exact ⟨v, J, _, he, .val _ _ (hv'.flat hflat), h1, h2⟩
      · rw [if_neg hflat] at hids
        subst hids
        obtain ⟨J', F1, hH1, he1, hle⟩ := fix_sound hH hf
        refine hcall.mono ?_
        rintro e w' ⟨v, F', he, hv', hF', hsz', hg⟩
        obtain ⟨h1, h2⟩ := grown_ext (F' := F') hH1 hg (fun g h => (hF' g h).elim (fun h => .inl (hle g h)) .inr) hsz'
        exact ⟨v, J', _, he, .val _ _ (hv'.mono (fun g h => .inr h) (fun _ _ => rfl)), h1, he1.trans h2⟩
    · cases hc
  · cases hc

end
end Go.AI
