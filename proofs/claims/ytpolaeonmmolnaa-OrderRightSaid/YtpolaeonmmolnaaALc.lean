/- Functions of data with a kind: their contracts; what operations come to where rows have a kind. -/
import Derived.Test.YtpolaeonmmolnaaALb
namespace Go.AI
set_option linter.unusedVariables false
set_option linter.unusedSimpArgs false

/-- A slice of nothing is the same, however large its elements would be. -/
def z1 : DV → DV
  | .sl _ [] => .sl 0 []
  | d => d

theorem z1_sl {s : Nat} {l m : List (List DV)} (h : z1 (.sl s l) = z1 (.sl s m)) : l = m := by
  cases l with
  | nil => cases m with
    | nil => rfl
    | cons => simp [z1] at h
  | cons => cases m with
    | nil => simp [z1] at h
    | cons => simpa [z1] using h

theorem z1_rep {F : Nat → Prop} {w : World} {d d' : DV} {v : Value} (h : z1 d = z1 d') (hr : Rep F w d v) : Rep F w d' v := by
  have nil : ∀ {s s' : Nat}, Rep F w (.sl s []) v → Rep F w (.sl s' []) v := by
    intro s s' h
    cases h with
    | sl0 _ a c => exact .sl0 s' a c
    | sl _ _ g o c vals => exact .sl0 s' _ c
  unfold z1 at h
  split at h
  · split at h
    · exact nil hr
    · rename_i hd
      cases d' <;> first | (cases h; done) | skip
      rename_i s' l'
      simp only [DV.sl.injEq] at h
      obtain ⟨rfl, rfl⟩ := h
      exact nil hr
  · split at h
    · subst h
      exact nil hr
    · subst h; exact hr

open Classical in
/-- A contract over data of a kind. -/
noncomputable def specT {α β : Type} (ea : α → List DV) (eb : β → DV) (g : α → Option β) : List DV → Option DV := fun ds =>
  if h : ∃ a, (ea a).map z1 = ds.map z1 then (g (Classical.choose h)).map eb else none

theorem specT_at {α β : Type} {ea : α → List DV} {eb : β → DV} {g : α → Option β} (inj : ∀ a b, (ea a).map z1 = (ea b).map z1 → a = b) (a : α) {ds : List DV} (hd : ds.map z1 = (ea a).map z1) : specT ea eb g ds = (g a).map eb := by
  have h : ∃ b, (ea b).map z1 = ds.map z1 := ⟨a, hd.symm⟩
  unfold specT
  rw [dif_pos h, inj _ _ ((Classical.choose_spec h).trans hd)]

section
variable {P : Program} {J J0 : Id → JI} {F F0 : Nat → Prop} {w w0 : World} {H : Hp} {a : Act} {C : FuncId → Con} {B : Id → Prop}

theorem calls_ofW (hC : ConOk P C) {f : FuncId} {af : AFn} (hf : compF P f = some af) {avs : List AV} {vs : List Value} (hH : HRel J F w H) (hv : vs.length = avs.length ∧ ∀ (j : Nat) y v, avs[j]? = some y → vs[j]? = some v → VRel J F w y v)
    {K : St → Prop} (h : WP P C B af.code (retQ K) ⟨env0 avs af.ntmps, H⟩) {R : Ending → World → Prop}
    (hR : ∀ (s : St) (a' : Act) (w' : World) (J' : Id → JI) (F' : Nat → Prop), ERel J' F' w' s.env a'.tmps → HRel J' F' w' s.H → Ext0 B J F w J' F' w' → K s → ∃ x, outA s af.res = some x ∧ ∀ v, VRel J' F' w' x v → R (.returned v) w') : Calls P f vs.toArray w R := by
  obtain ⟨fn, c, h1, h2, h3, h4, h5, _⟩ := compF_inv hf
  refine calls_of_wp h1 h2 ?_
  rw [h5]
  refine h hC c h3 J F w [] _ w _ ⟨J, F, env0_rel hv af.ntmps, hH, Ext0.refl _ _ _, rfl⟩ ?_
  rintro e s a' w' ⟨J', F', hE', hH', hX', hd'⟩ hq
  have done : K s → Act.defers a' = [] ∧ ∃ v, (results fn (Act.tmps a')).run P w' = .ok v w' ∧ R (.returned v) w' := by
    intro hk
    obtain ⟨x, hx, hr⟩ := hR s a' w' J' F' hE' hH' hX' hk
    obtain ⟨v, hv1, hv2⟩ := outA_run hE' hH' h4 hx
    exact ⟨hd', v, hv1, hr v hv2⟩
  cases e <;> first | exact done hq | exact hq.elim

/-- **A function that answers data of data.** -/
theorem val_ofW (hC : ConOk P C) {f : FuncId} {af : AFn} (hf : compF P f = some af) {spec : List DV → Option DV}
    (h : ∀ ds r, spec ds = some r → WP P C (fun _ => False) af.code (retQ fun s => outV s af.res = some r) ⟨env0 (ds.map .val) af.ntmps, mkH []⟩) : ValOk P f spec := by
  obtain ⟨fn, c, _, _, _, _, _, hent⟩ := compF_inv hf
  refine ⟨hent, fun ds r hr F w vs hrep hF => ?_⟩
  refine calls_ofW hC hf (J := fun _ => .none) (nothing F w hF) (avs := ds.map .val) ⟨by simp [hrep.1], fun j y v h1 h2 => ?_⟩ (h ds r hr) ?_
  · simp only [List.getElem?_map, Option.map_eq_some_iff] at h1
    obtain ⟨d, h1, rfl⟩ := h1
    exact .val _ _ (hrep.2 j d v h1 h2)
  · intro s a' w' J' F' hE' hH' hX' hk
    unfold outV at hk
    simp only [Option.bind_eq_some_iff] at hk
    obtain ⟨x, hx, hd⟩ := hk
    refine ⟨x, hx, fun v hv => ?_⟩
    have hnew : ∀ g, F' g ∨ Own J' g → F g ∨ w.heap.size ≤ g := by
      rintro g (h1 | h1)
      · rcases hX'.fnew g h1 with h2 | ⟨_, _, _, h2⟩ | h2
        · exact .inl h2
        · cases h2
        · exact .inr h2
      · rcases hX'.onew g h1 with ⟨_, _, _, h2⟩ | h2
        · cases h2
        · exact .inr h2
    have hsz : ∀ g, F' g ∨ Own J' g → g < w'.heap.size := by
      rintro g (h1 | ⟨_, _, _, h1⟩)
      · exact hH'.fsz g h1
      · exact hH'.live _ _ _ _ _ h1
    have hrel : Rep (fun g => F' g ∨ Own J' g) w' r v := by
      have widen : ∀ ids g, With J' F' ids g → F' g ∨ Own J' g := fun ids g h => h.imp (fun h => h) (fun ⟨i, _, s, c, h⟩ => ⟨i, s, c, h⟩)
      unfold outD at hd
      split at hd
      · rename_i l
        simp only [Option.map_eq_some_iff] at hd
        obtain ⟨⟨ds', ids⟩, hds, rfl⟩ := hd
        obtain ⟨hl, hr⟩ := (argD_rel hH' 99).2 _ _ _ hds
        cases hv with
        | tup _ us hul hur =>
          refine .tup _ _ (by rw [hul, hl]) (fun j d u q1 q2 => ?_)
          have hj : j < l.length := by rw [← hl]; exact (List.getElem?_eq_some_iff.1 q1).1
          exact (hr j _ d u (List.getElem?_eq_getElem hj) q1 (hur j _ u (List.getElem?_eq_getElem hj) q2)).mono (widen ids) (fun _ _ => rfl)
      · simp only [Option.map_eq_some_iff] at hd
        obtain ⟨⟨d, ids⟩, hds, rfl⟩ := hd
        exact ((argD_rel hH' 99).1 _ _ _ v hds hv).mono (widen ids) (fun _ _ => rfl)
    exact ⟨v, _, rfl, hrel, hnew, hsz, ⟨fun g hg => hX'.heap g hg (by rintro ⟨_, _, _, h⟩; cases h), hX'.size, hX'.os, hX'.tape, hX'.output⟩⟩

open Classical in
noncomputable def specE {α β : Type} (ea : α → List DV) (eb : β → DV) (g : α → Option β) : List DV → Option DV := fun ds =>
  if h : ∃ a, ea a = ds then (g (Classical.choose h)).map eb else none

/-- **A function of data with a kind.** -/
theorem valT_of (hC : ConOk P C) {f : FuncId} {af : AFn} (hf : compF P f = some af) {α β : Type} (ea : α → List DV) (eb : β → DV) (g : α → Option β) (inj : ∀ a b, (ea a).map z1 = (ea b).map z1 → a = b)
    (h : ∀ a, Imq (g a) (fun _ => True) fun r => WP P C (fun _ => False) af.code (retQ fun s => outV s af.res = some (eb r)) ⟨env0 ((ea a).map .val) af.ntmps, mkH []⟩) : ValOk P f (specT ea eb g) := by
  have key : ValOk P f (specE ea eb g) := by
    refine val_ofW hC hf fun ds r hr => ?_
    unfold specE at hr
    split at hr
    · rename_i hd
      obtain ⟨b, hb, rfl⟩ := Option.map_eq_some_iff.1 hr
      have := h _ b hb trivial
      rwa [(Classical.choose_spec hd)] at this
    · cases hr
  refine ⟨key.1, fun ds r hr F w vs hrep hF => ?_⟩
  unfold specT at hr
  split at hr
  · rename_i hd
    have hc := Classical.choose_spec hd
    refine key.2 (ea (Classical.choose hd)) r ?_ F w vs ⟨?_, fun j d v h1 h2 => ?_⟩ hF
    · unfold specE
      have h2 : ∃ b, ea b = ea (Classical.choose hd) := ⟨_, rfl⟩
      rw [dif_pos h2]
      rwa [inj _ _ (congrArg (List.map z1) (Classical.choose_spec h2))]
    · rw [hrep.1]
      have := congrArg List.length hc
      simpa using this.symm
    · have hl := congrArg (fun l => l[j]?) hc
      simp only [List.getElem?_map, h1, Option.map_some] at hl
      cases hq : ds[j]? with
      | none => rw [hq] at hl; cases hl
      | some d' =>
        rw [hq] at hl
        simp only [Option.map_some, Option.some.injEq] at hl
        exact z1_rep hl.symm (hrep.2 j d' v hq h2)
  · cases hr
end

/-! ### Operations -/
section
variable {C : FuncId → Con} {ρ : Opd → AV} {ρp : Bool → Opd → AV} {id : Id} {H : Hp} {h h' : List (Id × Blk)} {α : Type} {e : α → List DV} {xs ys : List α} {x y i v : Opd} {s : Nat}

theorem E_p {o : POp} {u : AV} (h : semP ρ ρp o = some u) : semE C H ρ ρp [] id (.p o) = some (u, H) := by simp only [semE, h, Option.map_some]

def getO (xs : List α) (n : Int) : Option α := if 0 ≤ n then xs[n.toNat]? else none

theorem E_len (hx : ρ x = .val (.sl s (xs.map e))) : semE C H ρ ρp [] id (.p (.len x)) = some (.val (.int .i64 (xs.length : Int)), H) := E_p (by simp only [semP, hx, List.length_map])

theorem E_soff {n : Int} {a : α} (hx : ρ x = .val (.sl s (xs.map e))) (hi : (ρ i).num = some n) (ha : getO xs n = some a) : semE C H ρ ρp [] id (.p (.soff s x i)) = some (.val (.pt (e a)), H) := by
  refine E_p ?_
  unfold getO at ha
  split at ha
  · rename_i h0
    simp only [semP, hi, hx, List.getElem?_map, ha, Option.map_some]
    rw [if_pos ⟨trivial, h0⟩]
  · cases ha

/-- A part of a slice. -/
def cutO (xs : List α) (lo hi : Int) : Option (List α) := if 0 ≤ lo ∧ lo ≤ hi ∧ hi ≤ (xs.length : Int) then some ((xs.take hi.toNat).drop lo.toNat) else none

theorem E_slice {lo hi : Option Opd} {a b : Int} {ys : List α} (hx : ρ x = .val (.sl s (xs.map e))) (hlo : optNum ρ 0 lo = some a) (hhi : optNum ρ (xs.length : Int) hi = some b) (hy : cutO xs a b = some ys) :
    semE C H ρ ρp [] id (.p (.slice s x lo hi none)) = some (.val (.sl s (ys.map e)), H) := by
  refine E_p ?_
  unfold cutO at hy
  split at hy
  · rename_i hc
    cases hy
    simp only [semP, hx, bounds, optNum, List.length_map]
    simp only [optNum] at hlo hhi
    simp only [hlo, hhi]
    rw [if_pos trivial, if_pos ⟨hc.1, hc.2.1, hc.2.2, Int.le_refl _⟩]
    simp [List.map_take, List.map_drop]
  · cases hy

/-- An element of a row of numbers. -/
theorem E_idxA {n : Int} {len : Nat} {d : DV} {ds : List DV} (hx : ρ x = .val (.agg ds)) (hi : (ρ i).num = some n) (hl : ds.length = len) (hd : getO ds n = some d) : semE C H ρ ρp [] id (.p (.idxA len 1 false x i)) = some (.val d, H) := by
  refine E_p ?_
  unfold getO at hd
  split at hd
  · rename_i h0
    have hn : n.toNat < ds.length := (List.getElem?_eq_some_iff.1 hd).1
    simp only [semP, hi, hx, AV.part]
    rw [if_pos (by omega), if_pos (by omega)]
    simp only [Nat.mul_one]
    have : (ds.drop n.toNat).take 1 = [d] := by
      have h1 := List.getElem?_eq_some_iff.1 hd
      rw [List.drop_eq_getElem_cons hn, List.take_succ_cons, List.take_zero, h1.2]
    rw [this]
    rfl
  · cases hd

theorem E_call {f : FuncId} {args : List Opd} {sp : List DV → Option DV} {ds : List DV} {r : DV} (hc : C f = .val sp) (ha : argDs H 99 (args.map ρ) = some (ds, [])) (hs : sp ds = some r) : semE C H ρ ρp [] id (.r (.call f args)) = some (.val r, H) := by
  simp only [semE, semC, hc, callD, ha, hs, ite_self, fix, Option.map_some]

theorem E_callF {f : FuncId} {args : List Opd} {sp : List DV → Option DV} {ds : List DV} {ids : List Id} {r : DV} (hc : C f = .val sp) (ha : argDs H 99 (args.map ρ) = some (ds, ids)) (hs : sp ds = some r) (hr : r.flat = true) :
    semE C H ρ ρp [] id (.r (.call f args)) = some (.val r, H) := by
  simp only [semE, semC, hc, callD, ha, hs, hr, if_true, fix, Option.map_some]

theorem E_a {o : AlOp} {u : AV} {b : Blk} (hid : mkH h id = none) (ha : semA C (mkH h) ρ id o = some (u, b)) (hh : setH h id b = h') : semE C (mkH h) ρ ρp [] id (.a o) = some (u, mkH h') := by
  subst hh
  simp only [semE]
  rw [if_neg (by simp [hid]), ha]
  simp only [Option.map_some, upd_mkH]

theorem E_load {n : Nat} {agg : Bool} {u : AV} (hl : loadA (mkH h) n agg (ρ x) = some u) : semE C (mkH h) ρ ρp [] id (.r (.load n agg x)) = some (u, mkH h) := by
  simp only [semE, semR, hl, Option.map_some]

/-- A store into a variable. -/
theorem E_store {n o : Nat} {b : Id} {cs cells cells' : List AV} (hv : (ρ v).cells = some cs) (hx : ρ x = .box b o) (hb : mkH h b = some (.box cells)) (hn : cs.length = n) (h1 : cs.all AV.single = true) (ho : Nat.ble (o + n) cells.length = true)
    (hc : splice cells o cs = cells') (hh : setH h b (.box cells') = h') : semE C (mkH h) ρ ρp [] id (.w (.store n x v)) = some (.val (.tup []), mkH h') := by
  subst hc hh
  simp only [semE, semW, hv, hx, hb]
  rw [if_pos ⟨hn, h1⟩, if_pos (Nat.le_of_ble_eq_true ho)]
  simp only [upd_mkH]
end
end Go.AI
