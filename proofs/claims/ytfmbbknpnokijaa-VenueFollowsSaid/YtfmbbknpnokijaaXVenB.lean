/- venue: right messages, right venues, where an order is; on both sides. -/
import Derived.Test.YtfmbbknpnokijaaXVenT
namespace Go.AI
open IntKind

abbrev MsgR : Type := Int × (Int × (Int × (Int × (Int × (Int × (Int × (Int × (Int × Unit))))))))
abbrev VenR : Type := List MsgR × (List OrdR × (List NotR × Unit))

/-! ### Messages -/
def msgP (m : MsgR) : Prop := idP m.2.1 ∧ 0 ≤ m.2.2.1 ∧ m.2.2.1 < 8 ∧ 0 ≤ m.2.2.2.1 ∧ m.2.2.2.1 < 8 ∧ (m.2.2.2.2.1 = 1 ∨ m.2.2.2.2.1 = 2) ∧ 0 ≤ m.2.2.2.2.2.2.2.2.1 ∧ m.2.2.2.2.2.2.2.2.1 ≤ 1000000000 ∧
  ((m.1 = 1 ∧ 1 ≤ m.2.2.2.2.2.1 ∧ 1 ≤ m.2.2.2.2.2.2.1 ∧ m.2.2.2.2.2.2.2.1 = 0) ∨ (m.1 = 2 ∧ 1 ≤ m.2.2.2.2.2.1 ∧ 1 ≤ m.2.2.2.2.2.2.1 ∧ 1 ≤ m.2.2.2.2.2.2.2.1) ∨ (m.1 = 3 ∧ m.2.2.2.2.2.1 = 0 ∧ m.2.2.2.2.2.2.1 = 0 ∧ m.2.2.2.2.2.2.2.1 = 0))
instance (m : MsgR) : Decidable (msgP m) := by unfold msgP; infer_instance

theorem venue_RightMsg (m : MsgR) : g_venue_RightMsg (m, ()) = some (decide (msgP m)) := by
  obtain ⟨k, id, ac, sy, sd, q, p, v, ls, ⟨⟩⟩ := m
  simp only [g_venue_RightMsg, cond_some]
  congr 1
  refine dec_of ?_
  unfold msgP idP
  by_cases w1 : k = 1
  · simp [w1]; omega
  by_cases w2 : k = 2
  · simp [w2]; omega
  by_cases w3 : k = 3
  · simp [w3]; omega
  have b1 : (k == 1) = false := by simp [w1]
  have b2 : (k == 2) = false := by simp [w2]
  have b3 : (k == 3) = false := by simp [w3]
  simp [w1, w2, w3, b1, b2, b3]
theorem ref16_RightMsg (m : MsgR) : g_ref16_RightMsg (m, ()) = some (decide (msgP m)) := by
  obtain ⟨k, id, ac, sy, sd, q, p, v, ls, ⟨⟩⟩ := m
  simp only [g_ref16_RightMsg, cond_some]
  congr 1
  refine dec_of ?_
  unfold msgP idP
  by_cases w1 : k = 1
  · simp [w1]; omega
  by_cases w2 : k = 2
  · simp [w2]; omega
  by_cases w3 : k = 3
  · simp [w3]; omega
  have b1 : (k == 1) = false := by simp [w1]
  have b2 : (k == 2) = false := by simp [w2]
  have b3 : (k == 3) = false := by simp [w3]
  simp [w1, w2, w3, b1, b2, b3]

/-! ### Loops that look at all -/
theorem loop_all {ε : Type} {step : Int × Unit → Option ((Int × Unit) ⊕ (Unit ⊕ ε))} (n : Nat) (c : Nat → Bool) (out : ε)
    (h1 : ∀ i, i < n → step ((i : Int), ()) = some (bif c i then .inl (((i + 1 : Nat) : Int), ()) else .inr (.inr out)))
    (h2 : step ((n : Int), ()) = some (.inr (.inl ()))) : loopO step (0, ()) = some (bif (List.range n).all c then .inl () else .inr out) := by
  have key : ∀ k i, i + k = n → loopO step ((i : Int), ()) = some (bif (List.range' i k).all c then .inl () else .inr out) := by
    intro k
    induction k with
    | zero =>
      intro i hi
      have : i = n := by omega
      subst this
      exact loopO_out h2
    | succ k ih =>
      intro i hi
      have h := h1 i (by omega)
      rw [List.range'_succ, List.all_cons]
      cases hc : c i with
      | true =>
        rw [hc, cond_true] at h
        rw [loopO_next h, Bool.true_and]
        exact ih (i + 1) (by omega)
      | false =>
        rw [hc, cond_false] at h
        rw [Bool.false_and, cond_false]
        exact loopO_out h
  have := key n 0 (by omega)
  rw [← List.range_eq_range'] at this
  exact this
theorem eX_bif {β : Type} (c : Bool) (out : β) (f : Unit → Option β) : eX f (bif c then (Sum.inl () : Unit ⊕ β) else .inr out) = bif c then f () else some out := by cases c <;> rfl

/-! ### Right venues -/
def setP (o : OrdR) : Prop := ordP o ∧ o.2.2.2.2.2.2.2.1 ≠ 1 ∧ o.2.2.2.2.2.2.2.2.1 = 0 ∧ o.2.2.2.2.2.2.2.2.2.2.2.1 = false
instance (o : OrdR) : Decidable (setP o) := by unfold setP; infer_instance
theorem venue_settled (o : OrdR) : g_venue_settled (o, ()) = some (decide (setP o)) := by
  simp only [g_venue_settled, order_Right, Option.bind_some]
  congr 1
  refine dec_of ?_
  unfold setP
  simp [and_assoc]

def noteC (l : List NotR) (i : Nat) : Bool := match l[i]? with
  | some n => decide (n.1 = (i : Int) + 1 ∧ evP n)
  | none => true
def ordC (l : List OrdR) (i : Nat) : Bool := match l[i]? with
  | some o => decide (setP o) && (match i with
    | 0 => true
    | k + 1 => match l[k]? with
      | some p => decide (p.1 < o.1)
      | none => true)
  | none => true
def msgC (l : List MsgR) (i : Nat) : Bool := match l[i]? with
  | some m => decide (msgP m)
  | none => true
def rightV (v : VenR) : Bool := decide (v.1.length ≤ 400 ∧ v.2.2.1.length ≤ 400 ∧ v.2.1.length ≤ 400) && ((List.range v.2.2.1.length).all (noteC v.2.2.1) && ((List.range v.2.1.length).all (ordC v.2.1) && (List.range v.1.length).all (msgC v.1)))

theorem venue_Right (v : VenR) : g_venue_Right (v, ()) = some (rightV v) := by
  obtain ⟨ms, os, ns, ⟨⟩⟩ := v
  unfold g_venue_Right rightV
  simp only
  by_cases c : ms.length ≤ 400 ∧ ns.length ≤ 400 ∧ os.length ≤ 400
  · have e : (((decide ((ms.length : Int) > 400)) || (decide ((ns.length : Int) > 400))) || (decide ((os.length : Int) > 400))) = false := by simp; omega
    rw [e, cond_false, decide_eq_true c, Bool.true_and]
    obtain ⟨c1, c2, c3⟩ := c
    rw [loop_all ns.length (noteC ns) false ?_ ?_]
    rotate_left
    · intro i hi
      simp only [ltI hi, cond_true, getI_at hi, Option.bind_some, g_rec_OfNote, rec_Event, wrap_succ (n := i) (by omega)]
      unfold noteC
      rw [List.getElem?_eq_getElem hi]
      simp only
      generalize ns[i] = n
      by_cases h1 : n.1 = (i : Int) + 1
      · by_cases h2 : evP n
        · simp [h1, h2]
        · simp [h1, h2]
      · have b1 : (n.1 != (i : Int) + 1) = true := by simp [h1]
        have b2 : decide (n.1 = (i : Int) + 1 ∧ evP n) = false := by simp [h1]
        rw [b2, show (((i + 1 : Nat) : Int)) = (i : Int) + 1 by omega]
        simp only [b1, cond_true, cond_false, Option.bind_some]
        rfl
    · simp only [ltI', cond_false]; rfl
    rw [Option.bind_some, eX_bif]
    cases (List.range ns.length).all (noteC ns) with
    | false => rfl
    | true =>
    rw [cond_true, Bool.true_and]
    rw [loop_all os.length (ordC os) false ?_ ?_]
    rotate_left
    · intro i hi
      simp only [ltI hi, cond_true, getI_at hi, Option.bind_some, venue_settled]
      unfold ordC
      rw [List.getElem?_eq_getElem hi]
      simp only
      generalize os[i] = o
      cases i with
      | zero =>
        by_cases h1 : setP o
        · simp [h1]
          exact wrap_i64_in (by omega) (by omega)
        · simp [h1]
      | succ k =>
        dsimp only
        have hk : k < os.length := by omega
        have e1 : decide (((k + 1 : Nat) : Int) > 0) = true := decide_eq_true (by omega)
        rw [e1, cond_true, wrap_i64_in (by omega) (by omega), getI_lit os _ k (by omega), List.getElem?_eq_getElem hk, Option.bind_some]
        simp only [Option.bind_some]
        generalize os[k] = p
        by_cases h1 : setP o
        · by_cases h2 : p.1 < o.1
          · have h3 : decide (o.1 ≤ p.1) = false := decide_eq_false (by omega)
            simp [h1, h2, h3, wrap_succ (n := k + 1) (by omega)]
            rw [wrap_i64_in (by omega) (by omega)]
          · have h3 : decide (o.1 ≤ p.1) = true := decide_eq_true (by omega)
            simp [h1, h2, h3]
        · simp [h1]
    · simp only [ltI', cond_false]; rfl
    rw [Option.bind_some, eX_bif]
    cases (List.range os.length).all (ordC os) with
    | false => rfl
    | true =>
    rw [cond_true, Bool.true_and]
    rw [loop_all ms.length (msgC ms) false ?_ ?_]
    rotate_left
    · intro i hi
      simp only [ltI hi, cond_true, getI_at hi, Option.bind_some, venue_RightMsg]
      unfold msgC
      rw [List.getElem?_eq_getElem hi]
      simp only
      generalize ms[i] = m
      by_cases h1 : msgP m
      · simp [h1, wrap_succ (n := i) (by omega)]
      · have e1 : decide ((i : Int) ≥ 0) = true := decide_eq_true (by omega)
        simp [h1, e1]
    · simp only [ltI', cond_false]; rfl
    rw [Option.bind_some, eX_bif]
    cases (List.range ms.length).all (msgC ms) <;> rfl
  · have e : (((decide ((ms.length : Int) > 400)) || (decide ((ns.length : Int) > 400))) || (decide ((os.length : Int) > 400))) = true := by simp; omega
    rw [e, cond_true, decide_eq_false c, Bool.false_and]

theorem pend_price {o : OrdR} (h : ordP o) (h1 : o.2.2.2.2.2.2.2.2.1 = 0) : o.2.2.2.2.2.2.2.2.2.1 = 0 := by
  unfold ordP pend at h
  apply Classical.byContradiction
  intro hc
  have := (h.2.2.2.2.1 (.inr hc)).1
  omega

theorem ref16_Right (v : VenR) : g_ref16_Right (v, ()) = some (rightV v) := by
  obtain ⟨ms, os, ns, ⟨⟩⟩ := v
  unfold g_ref16_Right rightV
  simp only
  by_cases c : ms.length ≤ 400 ∧ ns.length ≤ 400 ∧ os.length ≤ 400
  · have e : (((decide ((ms.length : Int) > 400)) || (decide ((ns.length : Int) > 400))) || (decide ((os.length : Int) > 400))) = false := by simp; omega
    rw [e, cond_false, decide_eq_true c, Bool.true_and]
    obtain ⟨c1, c2, c3⟩ := c
    rw [loop_all ms.length (msgC ms) false ?_ ?_]
    rotate_left
    · intro i hi
      simp only [ltI hi, cond_true, getI_at hi, Option.bind_some, ref16_RightMsg]
      unfold msgC
      rw [List.getElem?_eq_getElem hi]
      simp only
      generalize ms[i] = m
      by_cases h1 : msgP m
      · simp [h1, wrap_succ (n := i) (by omega)]
      · simp [h1]
    · simp only [ltI', cond_false]; rfl
    rw [Option.bind_some, eX_bif]
    cases (List.range ms.length).all (msgC ms) with
    | false => simp
    | true =>
    rw [cond_true, Bool.and_true]
    rw [loop_all ns.length (noteC ns) false ?_ ?_]
    rotate_left
    · intro i hi
      simp only [ltI hi, cond_true, getI_at hi, Option.bind_some, g_ref16_OfNote, ref06_Event, wrap_succ (n := i) (by omega)]
      unfold noteC
      rw [List.getElem?_eq_getElem hi]
      simp only
      generalize ns[i] = n
      by_cases h1 : n.1 = (i : Int) + 1
      · by_cases h2 : evP n
        · simp [h1, h2]
        · simp [h1, h2]
      · have b1 : (n.1 != (i : Int) + 1) = true := by simp [h1]
        have b2 : decide (n.1 = (i : Int) + 1 ∧ evP n) = false := by simp [h1]
        rw [b2, show (((i + 1 : Nat) : Int)) = (i : Int) + 1 by omega]
        simp only [b1, cond_true, cond_false, Option.bind_some]
        rfl
    · simp only [ltI', cond_false]; rfl
    rw [Option.bind_some, eX_bif]
    cases (List.range ns.length).all (noteC ns) with
    | false => rfl
    | true =>
    rw [cond_true, Bool.true_and]
    rw [loop_all os.length (ordC os) false ?_ ?_]
    rotate_left
    · intro i hi
      simp only [ltI hi, cond_true, getI_at hi, Option.bind_some, ref07_Right]
      unfold ordC
      rw [List.getElem?_eq_getElem hi]
      simp only
      generalize os[i] = o
      have e0 : (((((!decide (ordP o)) || (o.2.2.2.2.2.2.2.1 == 1)) || (o.2.2.2.2.2.2.2.2.1 != 0)) || (o.2.2.2.2.2.2.2.2.2.1 != 0)) || o.2.2.2.2.2.2.2.2.2.2.2.1) = !decide (setP o) := by
        unfold setP
        by_cases hp : ordP o
        · by_cases hq : o.2.2.2.2.2.2.2.2.1 = 0
          · have := pend_price hp hq
            simp [hp, hq, this]
            rfl
          · simp [hp, hq]
        · simp [hp]
      rw [e0]
      cases i with
      | zero =>
        by_cases h1 : setP o
        · simp [h1]
          exact wrap_i64_in (by omega) (by omega)
        · simp [h1]
      | succ k =>
        dsimp only
        have hk : k < os.length := by omega
        have e1 : decide (((k + 1 : Nat) : Int) > 0) = true := decide_eq_true (by omega)
        rw [e1, cond_true, wrap_i64_in (by omega) (by omega), getI_lit os _ k (by omega), List.getElem?_eq_getElem hk, Option.bind_some]
        simp only [Option.bind_some]
        generalize os[k] = p
        by_cases h1 : setP o
        · by_cases h2 : p.1 < o.1
          · have h3 : decide (o.1 ≤ p.1) = false := decide_eq_false (by omega)
            simp [h1, h2, h3, wrap_succ (n := k + 1) (by omega)]
            rw [wrap_i64_in (by omega) (by omega)]
          · have h3 : decide (o.1 ≤ p.1) = true := decide_eq_true (by omega)
            simp [h1, h2, h3]
        · simp [h1]
    · simp only [ltI', cond_false]; rfl
    rw [Option.bind_some, eX_bif]
    cases (List.range os.length).all (ordC os) <;> rfl
  · have e : (((decide ((ms.length : Int) > 400)) || (decide ((ns.length : Int) > 400))) || (decide ((os.length : Int) > 400))) = true := by simp; omega
    rw [e, cond_true, decide_eq_false c, Bool.false_and]

structure RightV (v : VenR) : Prop where
  inb : v.1.length ≤ 400
  nts : v.2.2.1.length ≤ 400
  ods : v.2.1.length ≤ 400
  note : ∀ (i : Nat) (n : NotR), v.2.2.1[i]? = some n → n.1 = (i : Int) + 1 ∧ evP n
  set : ∀ o ∈ v.2.1, setP o
  srt : SrtO v.2.1
  msg : ∀ m ∈ v.1, msgP m

theorem lt_of_get {α : Type} {l : List α} {i : Nat} {x : α} (h : l[i]? = some x) : i < l.length := (List.getElem?_eq_some_iff.1 h).1
theorem rightV_iff (v : VenR) : rightV v = true ↔ RightV v := by
  unfold rightV
  simp only [Bool.and_eq_true, decide_eq_true_eq, List.all_eq_true, List.mem_range]
  constructor
  · rintro ⟨⟨h1, h2, h3⟩, h4, h5, h6⟩
    refine ⟨h1, h2, h3, fun i n hn => ?_, fun o ho => ?_, SrtO.of_steps fun i o p ho hp => ?_, fun m hm => ?_⟩
    · have := h4 i (lt_of_get hn)
      unfold noteC at this
      rw [hn] at this
      exact of_decide_eq_true this
    · obtain ⟨i, hi⟩ := List.mem_iff_getElem?.1 ho
      have := h5 i (lt_of_get hi)
      unfold ordC at this
      rw [hi] at this
      simp only [Bool.and_eq_true, decide_eq_true_eq] at this
      exact this.1
    · have := h5 (i + 1) (lt_of_get hp)
      unfold ordC at this
      rw [hp] at this
      simp only [Bool.and_eq_true, ho, decide_eq_true_eq] at this
      exact this.2
    · obtain ⟨i, hi⟩ := List.mem_iff_getElem?.1 hm
      have := h6 i (lt_of_get hi)
      unfold msgC at this
      rw [hi] at this
      exact of_decide_eq_true this
  · intro h
    refine ⟨⟨h.inb, h.nts, h.ods⟩, fun i hi => ?_, fun i hi => ?_, fun i hi => ?_⟩
    · unfold noteC
      have e := List.getElem?_eq_getElem hi
      rw [e]
      exact decide_eq_true (h.note i _ e)
    · unfold ordC
      have e := List.getElem?_eq_getElem hi
      rw [e]
      simp only [Bool.and_eq_true, decide_eq_true_eq]
      refine ⟨h.set _ (List.getElem_mem hi), ?_⟩
      cases i with
      | zero => rfl
      | succ k =>
        have hk : k < v.2.1.length := by omega
        have e2 := List.getElem?_eq_getElem hk
        dsimp only
        rw [e2]
        exact decide_eq_true (h.srt.steps k _ _ e2 e)
    · unfold msgC
      have e := List.getElem?_eq_getElem hi
      rw [e]
      exact decide_eq_true (h.msg _ (List.getElem_mem hi))

/-! ### Where an order is -/
def posO : List OrdR → Int → Option Nat
  | [], _ => none
  | o :: l, id => if o.1 = id then some 0 else (posO l id).map (· + 1)
def atI : Option Nat → Int
  | some k => (k : Int)
  | none => -1
def posF (id : Int) : List OrdR → Nat → Unit ⊕ Int
  | [], _ => .inl ()
  | o :: l, i => if o.1 = id then .inr (i : Int) else posF id l (i + 1)
theorem posF_end (id : Int) : ∀ (l : List OrdR) (i : Nat), eX (fun _ => some (-1)) (posF id l i) = some (atI ((posO l id).map (· + i)))
  | [], i => rfl
  | o :: l, i => by
    unfold posF posO
    by_cases e : o.1 = id
    · rw [if_pos e, if_pos e]
      simp [eX, atI]
    · rw [if_neg e, if_neg e, posF_end id l (i + 1)]
      cases posO l id with
      | none => rfl
      | some k => simp [atI]; omega
theorem ref16_Find (v : VenR) (id : Int) (hl : v.2.1.length ≤ 1000) : g_ref16_Find (v, (id, ())) = some (atI (posO v.2.1 id)) := by
  unfold g_ref16_Find
  rw [loop_over0 v.2.1 (fun i (b : Nat) => ((i : Int), ())) (fun l i => posF id l i) (fun i b => b = i) (b := 0) ?_ ?_ rfl (by rfl)]
  · rw [Option.bind_some, posF_end id v.2.1 0]
    simp
  · intro b _
    simp only [ltI', cond_false]
    rfl
  · intro i b hi hb
    subst hb
    simp only [ltI hi, cond_true, getI_at hi, Option.bind_some]
    rw [drop_at hi]
    generalize v.2.1[b] = f
    by_cases e : f.1 = id
    · right
      have e1 : (f.1 == id) = true := by simp [e]
      rw [e1, cond_true]
      unfold posF
      rw [if_pos e]
      rfl
    · left
      have e1 : (f.1 == id) = false := by simp [e]
      refine ⟨b + 1, ?_, rfl, ?_⟩
      · rw [e1, cond_false, wrap_succ (by omega)]
      · conv => lhs; unfold posF
        rw [if_neg e]
theorem find_same (v : VenR) (id : Int) : g_venue_Find (v, (id, ())) = g_ref16_Find (v, (id, ())) := rfl
theorem venue_Find (v : VenR) (id : Int) (hl : v.2.1.length ≤ 1000) : g_venue_Find (v, (id, ())) = some (atI (posO v.2.1 id)) := by
  rw [find_same]; exact ref16_Find v id hl
theorem posO_getO {l : List OrdR} (hs : SrtO l) (id : Int) : posO l id = (getO l id).map fun _ => rankO l id := by
  induction l with
  | nil => rfl
  | cons x l ih =>
    simp only [posO, getO, rankO]
    by_cases e : x.1 = id
    · rw [if_pos e, if_pos e, if_neg (by omega)]
      rfl
    · rw [if_neg e, if_neg e, ih hs.tail]
      cases hg : getO l id with
      | none => rfl
      | some g =>
        have h1 := hs.head g (getO_mem hg)
        rw [getO_name hg] at h1
        rw [if_pos h1]
        rfl
end Go.AI
