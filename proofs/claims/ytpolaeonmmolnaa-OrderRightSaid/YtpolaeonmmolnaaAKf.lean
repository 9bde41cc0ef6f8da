/- A region that draws its order, run in its own order. -/
import Derived.Test.YtpolaeonmmolnaaAKe
namespace Go.AI
set_option linter.unusedVariables false
set_option linter.unusedSimpArgs false
section
variable {P : Program} {C : FuncId → Con} {ns : Id}

theorem cInss_get : ∀ {ops : Array Oper} {l : List Oper} {m : List AIns}, cInss P ops l = some m → m.length = l.length ∧ ∀ (i : Nat) (o : Oper), l[i]? = some o → ∃ x, m[i]? = some x ∧ cIns P ops o = some x
  | ops, [], m, h => by cases h; exact ⟨rfl, by simp⟩
  | ops, o :: l, m, h => by
    simp only [cInss] at h
    split at h
    · rename_i x m' h1 h2
      cases h
      obtain ⟨h3, h4⟩ := cInss_get h2
      refine ⟨by simp [h3], fun i o' ho => ?_⟩
      cases i with
      | zero => simp at ho; subst ho; exact ⟨x, rfl, h1⟩
      | succ i => simp at ho ⊢; exact h4 i o' ho
    · cases h

theorem mem_left {m : List AIns} {listed : Array Bool} {l : List Nat} {x : AIns} : x ∈ left m listed l ↔ ∃ j ∈ l, listed.getD j true = false ∧ m[j]? = some x := by
  unfold left
  rw [List.mem_filterMap]
  constructor
  · rintro ⟨j, hj, h⟩
    split at h
    · cases h
    · rename_i hn
      exact ⟨j, hj, by simpa using hn, h⟩
  · rintro ⟨j, hj, h1, h2⟩
    exact ⟨j, hj, by rw [if_neg (by simp [h1])]; exact h2⟩

theorem draw_sound (hC : ConOk P (flatC C)) {ops : Array Oper} {m : List AIns} (hm : cInss P ops ops.toList = some m) (Inv : St → Prop)
    (hpres : ∀ i ∈ m, ∀ s s', Inv s → step (flatC C) ns s i = some s' → Inv s')
    (hedge : ∀ {i o}, ops[i]? = some o → ∀ e ∈ o.after, Region.binds .any e = true → e.on < i) (hpair : ∀ {i k x y}, k < i → m[i]? = some y → m[k]? = some x → Anc ops i k ∨ Comm C ns Inv x y) {Q : Exit → Act → World → Prop} :
    ∀ (fuel : Nat) (listed : Array Bool) (J : Id → JI) (F : Nat → Prop) (w : World) (a : Act) (s sf sf0 : St), listed.size = ops.size → Closed ops listed → (left m listed (List.range m.length)).length ≤ fuel → Inv s → ERel J F w s.env a.tmps → HRel J F w s.H →
      run (flatC C) ns (left m listed (List.range m.length)) s = some sf → Eqv sf sf0 → (∀ a' w' sf, Eqv sf sf0 → Moves J F w sf a a' w' → Q .normal a' w') → wpAny P .any ops Q fuel listed a w := by
  obtain ⟨hml, hmg⟩ := cInss_get hm
  have hlen : m.length = ops.size := by rw [hml]; simp
  have hop : ∀ {i}, i < ops.size → ∃ o x, ops[i]? = some o ∧ m[i]? = some x ∧ cIns P ops o = some x := by
    intro i hi
    have ho : ops[i]? = some ops[i] := Array.getElem?_eq_getElem hi
    obtain ⟨x, h1, h2⟩ := hmg i ops[i] (by simp)
    exact ⟨_, x, ho, h1, h2⟩
  have hin : ∀ {listed : Array Bool} {j}, listed.size = ops.size → listed.getD j true = false → j < ops.size := by
    intro listed j hs h
    rcases Nat.lt_or_ge j ops.size with h1 | h1
    · exact h1
    · simp [Array.getD, hs, Nat.not_lt.2 h1] at h
  have hflip : ∀ {listed : Array Bool} {j}, listed.size = ops.size → j < ops.size → listed.getD j false = listed.getD j true := by
    intro listed j hs h
    simp [Array.getD, hs, h]
  -- where nothing is ready, nothing is left
  have hnone : ∀ (listed : Array Bool), listed.size = ops.size → Region.ready .any ops listed = [] → left m listed (List.range m.length) = [] := by
    intro listed hs hr
    have all : ∀ n j, j < n → listed.getD j true = true := by
      intro n
      induction n with
      | zero => intro j hj; omega
      | succ n ih =>
        intro j hj
        by_cases hjn : j < n
        · exact ih j hjn
        · have hjn : j = n := by omega
          subst hjn
          cases hq : listed.getD j true with
          | true => rfl
          | false =>
            have hj' := hin hs hq
            obtain ⟨o, x, ho, _, _⟩ := hop hj'
            have : j ∈ Region.ready .any ops listed := mem_ready.2 ⟨hq, o, ho, fun e he hb => by
              have h1 := hedge ho e he hb
              rw [hflip hs (by omega)]
              exact ih _ h1⟩
            rw [hr] at this
            cases this
    cases hq : left m listed (List.range m.length) with
    | nil => rfl
    | cons x l =>
      have : x ∈ left m listed (List.range m.length) := by rw [hq]; simp
      obtain ⟨j, hj, h1, _⟩ := mem_left.1 this
      rw [all (j + 1) j (by omega)] at h1
      cases h1
  intro fuel
  induction fuel with
  | zero =>
    intro listed J F w a s sf sf0 hs hcl hf hI hE hH hrun heq hQ
    have h0 : left m listed (List.range m.length) = [] := List.eq_nil_of_length_eq_zero (by omega)
    rw [h0] at hrun
    simp only [run, Option.some.injEq] at hrun
    subst hrun
    refine ⟨?_, hQ a w s heq ⟨J, F, hE, hH, Ext.refl _ _ _, rfl⟩⟩
    cases hq : Region.ready .any ops listed with
    | nil => rfl
    | cons i l =>
      have hi : i ∈ Region.ready .any ops listed := by rw [hq]; simp
      obtain ⟨h1, o, ho, _⟩ := mem_ready.1 hi
      obtain ⟨_, x, _, hx, _⟩ := hop (hin hs h1)
      have : x ∈ left m listed (List.range m.length) := mem_left.2 ⟨i, by rw [List.mem_range, hlen]; exact hin hs h1, h1, hx⟩
      rw [h0] at this
      cases this
  | succ fuel ih =>
    intro listed J F w a s sf sf0 hs hcl hf hI hE hH hrun heq hQ
    refine ⟨fun hr => ?_, fun i hi => ?_⟩
    · rw [hnone listed hs hr] at hrun
      simp only [run, Option.some.injEq] at hrun
      subst hrun
      exact hQ a w s heq ⟨J, F, hE, hH, Ext.refl _ _ _, rfl⟩
    · obtain ⟨h1, o, ho, hall⟩ := mem_ready.1 hi
      have hi' := hin hs h1
      obtain ⟨o', x, ho', hx, hcx⟩ := hop hi'
      rw [ho] at ho'
      cases ho'
      have hsplit := range_split (i := i) (n := m.length) (by rw [hlen]; exact hi')
      have hleft : left m listed (List.range m.length) = left m listed (List.range i) ++ x :: left m listed (List.range' (i + 1) (m.length - (i + 1))) := by
        rw [hsplit, left_append]
        congr 1
        simp only [left, List.filterMap_cons, h1, hx]
        rfl
      have hleft' : left m (listed.setIfInBounds i true) (List.range m.length) = left m listed (List.range i) ++ left m listed (List.range' (i + 1) (m.length - (i + 1))) := by
        rw [hsplit, left_append, left_set _ _ _ _ (by simp)]
        congr 1
        rw [← left_set m listed i (List.range' (i + 1) (m.length - (i + 1))) (by rw [List.mem_range']; rintro ⟨_, _, h⟩; omega)]
        simp only [left, List.filterMap_cons]
        rw [show (listed.setIfInBounds i true).getD i true = true by simp [Array.getD, hs, hi']]
        rfl
      rw [hleft] at hrun hf
      obtain ⟨s1, sf', q1, q2, q3⟩ := bubble (Inv := Inv) _ x _ s sf (fun k hk => hpres k (by obtain ⟨j, _, _, hj2⟩ := mem_left.1 hk; exact List.mem_of_getElem? hj2)) hI (fun k hk => by
        obtain ⟨j, hj, hj1, hj2⟩ := mem_left.1 hk
        have hji : j < i := by simpa using hj
        rcases hpair hji hx hj2 with hanc | hc
        · have := anc_listed hcl hanc (fun o' ho' e he hb => by rw [ho] at ho'; cases ho'; exact hall e he hb)
          rw [hflip hs (hin hs hj1), hj1] at this
          cases this
        · exact hc) hrun
      have hs' : (listed.setIfInBounds i true).size = ops.size := by simpa using hs
      have hcl' : Closed ops (listed.setIfInBounds i true) := by
        intro j oj hoj hj e he hb
        by_cases hji : j = i
        · subst hji
          rw [ho] at hoj
          cases hoj
          exact getD_set_true (hall e he hb)
        · rw [getD_set_ne false (Ne.symm hji)] at hj
          exact getD_set_true (hcl j oj hoj hj e he hb)
      have next : ∀ a1 w1, Moves J F w s1 a a1 w1 → wpAny P .any ops Q fuel (listed.setIfInBounds i true) a1 w1 := by
        rintro a1 w1 ⟨J1, F1, r1, r2, r3, r4⟩
        exact ih _ J1 F1 w1 a1 s1 sf' sf0 hs' hcl' (by rw [hleft']; simp at hf ⊢; omega) (hpres x (List.mem_of_getElem? hx) s s1 hI q1) r1 r2 (by rw [hleft']; exact q2) (q3.trans heq)
          (fun a' w' sf hsf hmv => hQ a' w' sf hsf (Moves.trans (s1 := s1) r3 r4 hmv))
      unfold wpOp
      simp only [ho]
      rcases step_sound hC hcx hE hH q1 with ⟨hw, h⟩ | ⟨hw, h⟩
      · rw [if_pos hw]
        exact .inl (Oper.wp_mono next (h Q))
      · rw [hw]
        exact next _ _ h

theorem ok_edge {ops : Array Oper} {m : List AIns} (hm : cInss P ops ops.toList = some m) {f : Nat → Nat → Bool}
    (hok : ((List.range m.length).all fun i => (match ops[i]? with
      | some o => o.after.all fun e => !Region.binds .any e || decide (e.on < i)
      | none => false) && f i i) = true) : ∀ {i o}, ops[i]? = some o → ∀ e ∈ o.after, Region.binds .any e = true → e.on < i := by
  intro i o ho e he hb
  have hlen : m.length = ops.size := by rw [(cInss_get hm).1]; simp
  have hi : i < m.length := by rw [hlen]; exact (Array.getElem?_eq_some_iff.1 ho).1
  have := List.all_eq_true.1 hok i (by simpa using hi)
  simp only [Bool.and_eq_true, ho] at this
  have h2 := Array.all_eq_true_iff_forall_mem.1 this.1 e he
  simpa [hb] using h2

theorem drawOk_pair {ops : Array Oper} {m : List AIns} (hm : cInss P ops ops.toList = some m) {g : AIns → AIns → Bool}
    (hok : ((List.range m.length).all fun i => (match ops[i]? with
      | some o => o.after.all fun e => !Region.binds .any e || decide (e.on < i)
      | none => false) && (List.range i).all fun k => ((masks ops.toList []).getD i 0).testBit k || (match m[k]?, m[i]? with
      | some x, some y => g x y
      | _, _ => false)) = true) : ∀ {i k x y}, k < i → m[i]? = some y → m[k]? = some x → Anc ops i k ∨ g x y = true := by
  intro i k x y hki hy hx
  have hi : i < m.length := (List.getElem?_eq_some_iff.1 hy).1
  have := List.all_eq_true.1 hok i (by simpa using hi)
  simp only [Bool.and_eq_true] at this
  have h2 := List.all_eq_true.1 this.2 k (by simpa using hki)
  simp only [Bool.or_eq_true, hx, hy] at h2
  rcases h2 with h2 | h2
  · left
    cases hq : (masks ops.toList [])[i]? with
    | none => rw [List.getD_eq_getElem?_getD, hq] at h2; simp at h2
    | some z =>
      rw [List.getD_eq_getElem?_getD, hq] at h2
      exact masks_anc ops ops.toList [] [] rfl rfl (by simp) i z hq k h2
  · exact .inr h2

end
end Go.AI
