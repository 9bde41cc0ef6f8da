/- Regions whose order is drawn, beside the code. -/
import Derived.Test.YtpolaeonmmolnaaALf
namespace Go.AI
set_option linter.unusedVariables false
set_option linter.unusedSimpArgs false
section
variable {ρ : Type} {o : Option ρ} {A : ρ → Prop} {P : Program} {C : FuncId → Con} {B : Id → Prop} {K : ρ → St → Prop} {Q : ρ → Exit → St → Prop} {s : St}
variable {d n : Nat} {op : AOp} {g : Option (Nat × Bool)} {l : List AIns} {e : List (Nat × AV)} {H H' : Hp}

theorem q_ct {ρ : Type} {a b : Option ρ} {A p : ρ → Prop} (h : Imq a A p) : Imq (bif true then a else b) A p := h
theorem q_cf {ρ : Type} {a b : Option ρ} {A p : ρ → Prop} (h : Imq b A p) : Imq (bif false then a else b) A p := h
/-- A drawn region's operations, run in their own order. -/
structure RX (C : FuncId → Con) (l : List AIns) (K : St → Prop) (s : St) : Prop where
  run : runQ (flatC C) [] l K s

/-- What a region that draws its order ends in. -/
def XE (Q : Exit → St → Prop) (s' : St) : Prop := ∃ l, Has s'.env.l l ∧ QP Q .normal ⟨⟨s'.env.n, l⟩, s'.H⟩

theorem G_draw {ops : List AIns} (h : Imq o A fun r => RX C ops (XE (Q r)) s) : Imq o A fun r => WP P C B (.draw ops) (Q r) s := q_mono (fun _ h => WP_draw (ns := []) h.run) h

theorem G_drawA {ops : List AIns} {L needs : List (Nat × Nat)} (ids : Nat → Id) (hI : invT ids s L) (hn : ∀ p ∈ needs, ids p.1 ≠ ids p.2) (h : Imq o A fun r => RX C ops (XE (Q r)) s) : Imq o A fun r => WP P C B (.drawA ops L needs) (Q r) s := by
  refine q_mono (fun r h => WP_of_wpA (ns := []) ?_) h
  obtain ⟨s', h1, l, h2, h3⟩ := (runQ_iff _ _ _ _ _).1 h.run
  exact ⟨ids, hI, hn, s', l, h1, h2, h3⟩

theorem X_nil {m : List (Nat × AV)} (hm : Has e m) (h : Imq o A fun r => QP (Q r) .normal ⟨⟨n, m⟩, H⟩) : Imq o A fun r => RX C [] (XE (Q r)) ⟨⟨n, e⟩, H⟩ := q_mono (fun _ h => ⟨⟨m, hm, h⟩⟩) h

theorem X_op {v w : AV} (h1 : semE (flatC C) H (fun x => unw true (evE ⟨n, e⟩ x)) (fun t x => unw t (evE ⟨n, e⟩ x)) [] [d] op = some (v, H')) (hg : gv ⟨n, e⟩ g = some true) (hd : Nat.ble (d + 1) n = true)
    (hw : (bif (calm op && g.isSome) then AV.may true v else v) = w) (h : Imq o A fun r => RX C l (K r) ⟨⟨n, (d, w) :: e⟩, H'⟩) : Imq o A fun r => RX C (⟨some d, op, g⟩ :: l) (K r) ⟨⟨n, e⟩, H⟩ := by
  refine q_mono (fun r h => ⟨?_⟩) h
  subst hw
  unfold runQ
  have he : eff (flatC C) [] ⟨⟨n, e⟩, H⟩ ⟨some d, op, g⟩ = some (bif (calm op && g.isSome) then AV.may true v else v, H') := by
    unfold eff
    simp only [hg]
    unfold effG
    simp only [idOf, Option.getD_some]
    by_cases hc : (calm op && g.isSome) = true
    · simp only [hc, if_true, Bool.true_and, cond_true]
      rw [h1]
      have hc' : calm op = true := by simp only [Bool.and_eq_true] at hc; exact hc.1
      rw [calm_heap hc' h1]
    · simp only [hc, if_false, cond_true]
      rw [h1]
      simp only [Bool.not_eq_true] at hc
      simp only [hc, cond_false]
      rfl
  rw [he]
  simp only [putE]
  rw [if_pos (lt_of_ble hd)]
  exact h.run

theorem X_op0 {v : AV} (h1 : semE (flatC C) H (fun x => unw true (evE ⟨n, e⟩ x)) (fun t x => unw t (evE ⟨n, e⟩ x)) [] [0] op = some (v, H')) (hg : g = none)
    (h : Imq o A fun r => RX C l (K r) ⟨⟨n, e⟩, H'⟩) : Imq o A fun r => RX C (⟨none, op, g⟩ :: l) (K r) ⟨⟨n, e⟩, H⟩ := by
  refine q_mono (fun r h => ⟨?_⟩) h
  subst hg
  unfold runQ
  have he : eff (flatC C) [] ⟨⟨n, e⟩, H⟩ ⟨none, op, none⟩ = some (v, H') := by
    unfold eff
    simp only [gv]
    unfold effG
    simp only [Option.isSome_none, Bool.and_false, cond_true, idOf, Option.getD_none]
    exact h1
  rw [he]
  exact h.run

theorem RX.eqv {Q : Exit → St → Prop} {s s' : St} (h : Eqv s' s) (hr : RX C l (XE Q) s) : RX C l (XE Q) s' := by
  obtain ⟨s1, h1, m, h2, h3⟩ := (runQ_iff _ _ _ _ _).1 hr.run
  obtain ⟨s2, h4, h5⟩ := Eqv.run h.symm h1
  refine ⟨(runQ_iff _ _ _ _ _).2 ⟨s2, h4, m, ?_, ?_⟩⟩
  · have : ∀ m, Has s1.env.l m → Has s2.env.l m := by
      intro m
      induction m with
      | nil => intro _; trivial
      | cons p m ih =>
        obtain ⟨t, x⟩ := p
        intro hm
        exact ⟨by rw [← h5.look]; exact hm.1, ih hm.2⟩
    exact this m h2
  · rw [← h5.n, ← h5.H]
    exact h3
theorem eqv_put {t : Nat} {x : AV} (h : look e t = x) : Eqv ⟨⟨n, e⟩, H⟩ ⟨⟨n, (t, x) :: e⟩, H⟩ := by
  refine ⟨rfl, fun u => ?_, rfl⟩
  simp only [look]
  split
  · rename_i q; subst q; exact h
  · rfl
/-- A temporary that has a truth value, once that is known. -/
theorem X_lit {t : Nat} {b v : Bool} (hl : look e t = .val (.bool b)) (hb : b = v) (h : Imq o A fun r => RX C l (XE (Q r)) ⟨⟨n, (t, .val (.bool v)) :: e⟩, H⟩) : Imq o A fun r => RX C l (XE (Q r)) ⟨⟨n, e⟩, H⟩ :=
  q_mono (fun _ h => h.eqv (eqv_put (by rw [hl, hb]))) h
theorem X_litM {t : Nat} {b v : Bool} (hl : look e t = .may true (.val (.bool b))) (hb : b = v) (h : Imq o A fun r => RX C l (XE (Q r)) ⟨⟨n, (t, .may true (.val (.bool v))) :: e⟩, H⟩) : Imq o A fun r => RX C l (XE (Q r)) ⟨⟨n, e⟩, H⟩ :=
  q_mono (fun _ h => h.eqv (eqv_put (by rw [hl, hb]))) h
/-- Passed by: what would have been computed. -/
theorem X_off {v : AV} {H' : Hp} (hc : calm op = true) (hs : g.isSome = true) (h1 : semE (flatC C) H (fun x => unw false (evE ⟨n, e⟩ x)) (fun t x => unw (false && t) (evE ⟨n, e⟩ x)) [] [d] op = some (v, H')) (hg : gv ⟨n, e⟩ g = some false) (hd : Nat.ble (d + 1) n = true)
    (h : Imq o A fun r => RX C l (K r) ⟨⟨n, (d, .may false v) :: e⟩, H⟩) : Imq o A fun r => RX C (⟨some d, op, g⟩ :: l) (K r) ⟨⟨n, e⟩, H⟩ := by
  refine q_mono (fun r h => ⟨?_⟩) h
  unfold runQ
  have he : eff (flatC C) [] ⟨⟨n, e⟩, H⟩ ⟨some d, op, g⟩ = some (AV.may false v, H) := by
    unfold eff
    simp only [hg]
    unfold effG
    simp only [hc, hs, idOf, Option.getD_some, Bool.and_self, if_true]
    rw [h1]
  rw [he]
  simp only [putE]
  rw [if_pos (lt_of_ble hd)]
  exact h.run
theorem X_offC (hc : calm op = false) (hg : gv ⟨n, e⟩ g = some false) (hd : Nat.ble (d + 1) n = true)
    (h : Imq o A fun r => RX C l (K r) ⟨⟨n, (d, .val (.tup [])) :: e⟩, H⟩) : Imq o A fun r => RX C (⟨some d, op, g⟩ :: l) (K r) ⟨⟨n, e⟩, H⟩ := by
  refine q_mono (fun r h => ⟨?_⟩) h
  unfold runQ
  have he : eff (flatC C) [] ⟨⟨n, e⟩, H⟩ ⟨some d, op, g⟩ = some (.val (.tup []), H) := by
    unfold eff
    simp only [hg]
    unfold effG
    simp only [hc, Bool.false_and, cond_false]
    rfl
  rw [he]
  simp only [putE]
  rw [if_pos (lt_of_ble hd)]
  exact h.run
/-- Passed by, where nothing would have been computed. -/
theorem X_offN (hc : calm op = true) (hs : g.isSome = true) (h1 : semE (flatC C) H (fun x => unw false (evE ⟨n, e⟩ x)) (fun t x => unw (false && t) (evE ⟨n, e⟩ x)) [] [d] op = none) (hg : gv ⟨n, e⟩ g = some false) (hd : Nat.ble (d + 1) n = true)
    (h : Imq o A fun r => RX C l (K r) ⟨⟨n, (d, .val (.tup [])) :: e⟩, H⟩) : Imq o A fun r => RX C (⟨some d, op, g⟩ :: l) (K r) ⟨⟨n, e⟩, H⟩ := by
  refine q_mono (fun r h => ⟨?_⟩) h
  unfold runQ
  have he : eff (flatC C) [] ⟨⟨n, e⟩, H⟩ ⟨some d, op, g⟩ = some (.val (.tup []), H) := by
    unfold eff
    simp only [hg]
    unfold effG
    simp only [hc, hs, idOf, Option.getD_some, Bool.and_self, if_true]
    rw [h1]
    rfl
  rw [he]
  simp only [putE]
  rw [if_pos (lt_of_ble hd)]
  exact h.run
/-- What is where nothing was done. -/
def Off (y : AV) : Prop := (∃ x, y = .may false x) ∨ y = .val (.tup [])
theorem gv_off {n t : Nat} {e : List (Nat × AV)} {y : AV} {w : Bool} (hl : look e t = y) (hy : Off y) : gv ⟨n, e⟩ (some (t, w)) = some false := by
  unfold gv
  simp only [hl]
  rcases hy with ⟨x, rfl⟩ | rfl
  · split
    · rename_i h; cases h
    · rename_i h; cases h; rfl
    · rfl
    · rename_i h; cases h
    · rename_i h1 h2 h3 h4; exact absurd rfl (h3 x)
  · rfl
/-- Passed by, whatever would have been computed. -/
theorem X_offU (hc : calm op = true) (hs : g.isSome = true) (hg : gv ⟨n, e⟩ g = some false) (hd : Nat.ble (d + 1) n = true)
    (h : ∀ v, Imq o A fun r => RX C l (K r) ⟨⟨n, (d, .may false v) :: e⟩, H⟩) (h' : Imq o A fun r => RX C l (K r) ⟨⟨n, (d, .val (.tup [])) :: e⟩, H⟩) : Imq o A fun r => RX C (⟨some d, op, g⟩ :: l) (K r) ⟨⟨n, e⟩, H⟩ := by
  intro r hr ha
  refine ⟨?_⟩
  unfold runQ eff
  simp only [hg]
  unfold effG
  simp only [hc, hs, idOf, Option.getD_some, Bool.and_self, if_true, cond_false]
  cases semE (flatC C) H (fun x => unw false (evE ⟨n, e⟩ x)) (fun t x => unw (false && t) (evE ⟨n, e⟩ x)) [] [d] op with
  | none =>
    simp only [putE]
    rw [if_pos (lt_of_ble hd)]
    exact (h' r hr ha).run
  | some p =>
    obtain ⟨x, H1⟩ := p
    simp only [putE]
    rw [if_pos (lt_of_ble hd)]
    exact (h x r hr ha).run

theorem X_offA (hc : calm op = true) (hs : g.isSome = true) (hg : gv ⟨n, e⟩ g = some false) (hd : Nat.ble (d + 1) n = true)
    (h : ∀ y, Off y → Imq o A fun r => RX C l (K r) ⟨⟨n, (d, y) :: e⟩, H⟩) : Imq o A fun r => RX C (⟨some d, op, g⟩ :: l) (K r) ⟨⟨n, e⟩, H⟩ :=
  X_offU hc hs hg hd (fun v => h _ (.inl ⟨v, rfl⟩)) (h _ (.inr rfl))
end
section
variable {C : FuncId → Con} {ρ : Opd → AV} {ρp : Bool → Opd → AV} {id : Id} {H : Hp}
theorem E_pickF {c a b : Opd} {v : Bool} (hc : ρ c = .val (.bool false)) (hb : ρp true b = .val (.bool v)) : semE C H ρ ρp [] id (.p (.pick c a b)) = some (.val (.bool v), H) := by
  refine E_p ?_
  simp only [semP, hc, Bool.not_false, hb, Option.some.injEq]
  generalize ρp false a = y
  unfold pickV
  split
  · rename_i h1 h2
    cases h2
    rfl
  · rfl
theorem E_pickT {c a b : Opd} {v : Bool} (hc : ρ c = .val (.bool true)) (ha : ρp true a = .val (.bool v)) : semE C H ρ ρp [] id (.p (.pick c a b)) = some (.val (.bool v), H) := by
  refine E_p ?_
  simp only [semP, hc, Bool.not_true, ha, Option.some.injEq]
  generalize ρp false b = y
  unfold pickV
  split
  · rename_i h1 h2
    first | (cases h2; rfl) | (cases h1; cases h2; rfl) | (cases h1; rfl)
  · rfl
theorem E_callX {f : FuncId} {args : List Opd} {sp : List DV → Option DV} {ds : List DV} {ids : List Id} {r : DV} (hc : C f = .val sp) (ha : argDs H 99 (args.map ρ) = some (ds, ids)) (hs : sp ds = some r) (hr : r.flat = true) :
    semE (flatC C) H ρ ρp [] id (.r (.call f args)) = some (.val r, H) := by
  simp only [semE, semC, flatC, hc, callD, ha, hs, hr, if_true, fix, Option.map_some]
end
end Go.AI
