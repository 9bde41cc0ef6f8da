/- Rows of one's own: made, read, written, handed on. -/
import Derived.Test.YtpolaeonmmolnaaALg
namespace Go.AI
set_option linter.unusedVariables false
set_option linter.unusedSimpArgs false

/-- Is there room for so many elements of so many bytes? -/
def room (bytes n : Nat) : Prop := n * bytes ≤ 140737488355328 ∧ n ≤ maxLen
instance (bytes n : Nat) : Decidable (room bytes n) := by unfold room; infer_instance

/-- Bytes as a string, and the other way. -/
def strOf (xs : List Int) : ByteArray := ⟨(xs.map fun n => UInt8.ofNat n.toNat).toArray⟩
def bytesOf (b : ByteArray) : List Int := b.data.toList.map fun x => (x.toNat : Int)

theorem bytesD_map : ∀ (xs : List Int), bytesD (xs.map e_u8) = some (xs.map fun n => UInt8.ofNat n.toNat)
  | [] => rfl
  | x :: xs => by
    simp only [List.map_cons, e_u8, bytesD]
    have := bytesD_map xs
    change bytesD (List.map e_u8 xs) = _ at this
    show (bytesD (List.map e_u8 xs)).map _ = _
    rw [this]
    rfl
theorem dBytes_map (b : ByteArray) : dBytes b = (bytesOf b).map e_u8 := by
  simp only [dBytes, bytesOf, List.map_map]
  rfl

section
variable {C : FuncId → Con} {ρ : Opd → AV} {ρp : Bool → Opd → AV} {id b : Id} {H : Hp} {h h' : List (Id × Blk)} {α : Type} {e : α → List DV} {xs ys zs : List α} {x y i v : Opd} {s n m k : Nat}

/-! ### Elements -/
theorem L_sl : elems H s (.val (.sl s (xs.map e))) = some (xs.map e) := by simp only [elems]; rw [if_pos trivial]
theorem L_nils : elems H s (.val (.nils m)) = some (([] : List α).map e) := rfl
theorem take_all (xs : List α) (e : α → List DV) : (xs.map e).take xs.length = xs.map e := by rw [← List.length_map (f := e), List.take_length]
theorem L_row (hb : H b = some (.row s (xs.map e))) (hn : n = xs.length) : elems H s (.row b s 0 n) = some (xs.map e) := by
  subst hn
  simp only [elems, hb]
  rw [if_pos trivial, if_pos ⟨trivial, by simp⟩, List.drop_zero, take_all]
theorem L_frow (hb : H b = some (.frow s (xs.map e))) (hn : n = xs.length) : elems H s (.row b s 0 n) = some (xs.map e) := by
  subst hn
  simp only [elems, hb]
  rw [if_pos trivial, if_pos ⟨trivial, by simp⟩, List.drop_zero, take_all]
theorem L_cut {o : Nat} (hb : H b = some (.row s (xs.map e)) ∨ H b = some (.frow s (xs.map e))) (ho : o + n ≤ xs.length) (hy : (xs.drop o).take n = ys) : elems H s (.row b s o n) = some (ys.map e) := by
  subst hy
  rcases hb with hb | hb
  all_goals
    simp only [elems, hb]
    rw [if_pos trivial, if_pos ⟨trivial, by simpa using ho⟩]
    simp [List.map_take, List.map_drop]

/-! ### Appends -/
theorem E_app0 {bytes s' : Nat} (hx : ρ x = .val (.nils s')) (hy : elems (mkH h) s (ρ y) = some (ys.map e)) (hid : mkH h id = none) (hr : room bytes ys.length) (hh : setH h id (.row s (ys.map e)) = h') :
    semE C (mkH h) ρ ρp [] id (.w (.app s bytes false x y)) = some (.row id s 0 ys.length, mkH h') := by
  subst hh
  unfold room at hr
  simp only [semE, semW, Bool.false_eq_true, if_false, hy, hx, appRes, List.length_map]
  rw [if_neg (by simp [hid]), if_pos hr]
  simp only [upd_mkH]
theorem E_appR {bytes : Nat} (hx : ρ x = .row b s 0 n) (hb : mkH h b = some (.row s (xs.map e))) (hn : n = xs.length) (hy : elems (mkH h) s (ρ y) = some (ys.map e)) (hid : mkH h id = none) (hr : room bytes (xs.length + ys.length))
    (hz : xs ++ ys = zs) (hh : setH (setH h b .dead) id (.row s (zs.map e)) = h') :
    semE C (mkH h) ρ ρp [] id (.w (.app s bytes false x y)) = some (.row id s 0 zs.length, mkH h') := by
  subst hh hn hz
  unfold room at hr
  simp only [semE, semW, Bool.false_eq_true, if_false, hy, hx, appRes, List.length_map, hb]
  rw [if_neg (by simp [hid]), if_pos ⟨trivial, trivial, trivial, by omega, hr⟩]
  simp only [upd_mkH]
  congr 2
  · simp
  · congr 3
    rw [List.map_append]
    congr 1
    rw [← List.length_map (f := e), List.take_length]

/-! ### Places -/
theorem E_soffR {n' : Int} {a : α} (hx : ρ x = .row b s 0 m) (hi : (ρ i).num = some n') (hm : m = xs.length) (ha : getO xs n' = some a) : semE C H ρ ρp [] id (.p (.soff s x i)) = some (.elt b (0 + n'.toNat) 0, H) := by
  refine E_p ?_
  unfold getO at ha
  split at ha
  · rename_i h0
    have hlt := (List.getElem?_eq_some_iff.1 ha).1
    subst hm
    simp only [semP, hi, hx]
    rw [if_pos ⟨trivial, h0, by omega⟩]
  · cases ha
theorem E_loadE {o q : Nat} {n' : Int} {agg : Bool} {a : α} {u : AV} (hx : ρ x = .elt b (0 + n'.toNat) o) (hb : mkH h b = some (.row s (xs.map e)) ∨ mkH h b = some (.frow s (xs.map e))) (ha : getO xs n' = some a) (ho : Nat.ble (o + q) (e a).length = true)
    (hr : ofDCells agg (((e a).drop o).take q) = some u) : semE C (mkH h) ρ ρp [] id (.r (.load q agg x)) = some (u, mkH h) := by
  refine E_load ?_
  unfold getO at ha
  split at ha
  · have h1 : (xs.map e)[0 + n'.toNat]? = some (e a) := by rw [Nat.zero_add, List.getElem?_map, ha]; rfl
    rw [hx]
    simp only [loadA]
    rcases hb with hb | hb
    all_goals
      rw [hb]
      simp only [h1]
      rw [if_pos (Nat.le_of_ble_eq_true ho)]
      exact hr
  · cases ha
theorem E_storeE {o q : Nat} {n' : Int} {a a' : α} {cs : List AV} {ds : List DV} (hv : (ρ v).cells = some cs) (hx : ρ x = .elt b (0 + n'.toNat) o) (hb : mkH h b = some (.row s (xs.map e))) (hq : cs.length = q) (h1 : cs.all AV.single = true) (hd : argDs (mkH h) 99 cs = some (ds, []))
    (ha : getO xs n' = some a) (ho : Nat.ble (o + ds.length) (e a).length = true) (hc : splice (e a) o ds = e a') (hh : setH h b (.row s ((xs.set n'.toNat a').map e)) = h') :
    semE C (mkH h) ρ ρp [] id (.w (.store q x v)) = some (.val (.tup []), mkH h') := by
  subst hh
  unfold getO at ha
  split at ha
  · have h2 : (xs.map e)[0 + n'.toNat]? = some (e a) := by rw [Nat.zero_add, List.getElem?_map, ha]; rfl
    simp only [semE, semW, hv, hx, hb, hd, storeE, h2, fix]
    rw [if_pos ⟨hq, h1⟩, if_pos (Nat.le_of_ble_eq_true ho)]
    simp only [List.contains_nil, Bool.false_eq_true, if_false, upd_mkH, hc, Nat.zero_add, List.map_set]
  · cases ha
theorem E_sliceR {lo hi : Option Opd} {p q : Int} (hx : ρ x = .row b s 0 m) (hm : m = xs.length) (hlo : optNum ρ 0 lo = some p) (hhi : optNum ρ (m : Int) hi = some q) (hy : cutO xs p q = some ys) :
    semE C H ρ ρp [] id (.p (.slice s x lo hi none)) = some (.row b s (0 + p.toNat) (q.toNat - p.toNat), H) := by
  refine E_p ?_
  unfold cutO at hy
  split at hy
  · rename_i hc
    subst hm
    simp only [optNum] at hlo hhi
    simp only [semP, hx, bounds, optNum]
    simp only [hlo, hhi]
    rw [if_neg (by simp), if_pos ⟨hc.1, hc.2.1, hc.2.2, Int.le_refl _⟩]
    rfl
  · cases hy
theorem cut_le {p q : Int} (hy : cutO xs p q = some ys) : (0 + p.toNat) + (q.toNat - p.toNat) ≤ xs.length := by
  unfold cutO at hy
  split at hy
  · omega
  · cases hy
theorem cut_eq {p q : Int} (hy : cutO xs p q = some ys) : (xs.drop (0 + p.toNat)).take (q.toNat - p.toNat) = ys := by
  unfold cutO at hy
  split at hy
  · cases hy
    rw [Nat.zero_add, List.drop_take]
  · cases hy

/-- A slice of bytes that was written down. -/
theorem E_s2s {o : Nat} (hx : ρ x = .row b s o n) {es : List (List DV)} (hb : mkH h b = some (.row s es)) (hn : n ≠ 0) (hh : setH h b (.frow s es) = h') : semE C (mkH h) ρ ρp [] id (.w (.s2s x)) = some (.row b s o n, mkH h') := by
  subst hh
  simp only [semE, semW, hx, hb]
  rw [if_pos ⟨hn, trivial⟩]
  simp only [upd_mkH]
theorem E_b2s {xs : List Int} (hx : elems H 1 (ρ x) = some (xs.map e_u8)) : semE C H ρ ρp [] id (.r (.b2s x)) = some (.val (.str (strOf xs)), H) := by
  simp only [semE, semR, hx, Option.bind_some, bytesD_map, Option.map_some]
  rfl
theorem E_s2b {t : ByteArray} (hx : ρ x = .val (.str t)) : semE C H ρ ρp [] id (.r (.s2b x)) = some (.val (.sl 1 ((bytesOf t).map e_u8)), H) := by
  simp only [semE, semR, hx, dBytes_map, Option.map_some]
theorem E_mks {bytes : Nat} {zero : List DV} {z : α} {n' : Int} {y : Opd} (hz : e z = zero) (hx : (ρ x).num = some n') (hy : (ρ y).num = some n') (h0 : 0 ≤ n') (hr : (bytes : Int) * n' ≤ 281474976710656 ∧ n' ≤ 4611686018427387904) (h1 : zero.all DV.single = true) (hl : zero.length = s)
    (hid : mkH h id = none) (hh : setH h id (.row s ((List.replicate n'.toNat z).map e)) = h') : semE C (mkH h) ρ ρp [] id (.a (.mks s bytes zero x y)) = some (.row id s 0 n'.toNat, mkH h') := by
  refine E_a hid (b := .row s ((List.replicate n'.toNat z).map e)) ?_ hh
  simp only [semA, hx, hy]
  rw [if_pos ⟨h0, trivial, hr.1, hr.2, h1, hl⟩, List.map_replicate, hz]

/-! ### What is handed on -/
theorem A_nil : argDs H (k + 1) [] = some ([], []) := rfl
theorem A_cons {a : AV} {d : DV} {l : List AV} {ds : List DV} {p q : List Id} (h1 : argD H k a = some (d, p)) (h2 : argDs H k l = some (ds, q)) : argDs H (k + 1) (a :: l) = some (d :: ds, p ++ q) := by simp only [argDs, h1, h2]
theorem A_val {d d' : DV} (hd : d.norm = d') : argD H (k + 1) (.val d) = some (d', []) := by subst hd; rfl
theorem A_row (hb : H b = some (.row s (xs.map e))) (hn : n = xs.length) : argD H (k + 1) (.row b s 0 n) = some (.sl s (xs.map e), [b]) := by
  subst hn
  simp only [argD, hb]
  rw [if_pos ⟨trivial, by simp⟩, List.drop_zero, take_all]
theorem A_frow (hb : H b = some (.frow s (xs.map e))) (hn : n = xs.length) : argD H (k + 1) (.row b s 0 n) = some (.sl s (xs.map e), []) := by
  subst hn
  simp only [argD, hb]
  rw [if_pos ⟨trivial, by simp⟩, List.drop_zero, take_all]
theorem A_rowC {o : Nat} (hb : H b = some (.row s (xs.map e))) (ho : o + n ≤ xs.length) (hy : (xs.drop o).take n = ys) : argD H (k + 1) (.row b s o n) = some (.sl s (ys.map e), [b]) := by
  subst hy
  simp only [argD, hb]
  rw [if_pos ⟨trivial, by simpa using ho⟩]
  simp [List.map_take, List.map_drop]
theorem A_frowC {o : Nat} (hb : H b = some (.frow s (xs.map e))) (ho : o + n ≤ xs.length) (hy : (xs.drop o).take n = ys) : argD H (k + 1) (.row b s o n) = some (.sl s (ys.map e), []) := by
  subst hy
  simp only [argD, hb]
  rw [if_pos ⟨trivial, by simpa using ho⟩]
  simp [List.map_take, List.map_drop]
theorem A_agg {l : List AV} {ds : List DV} {p : List Id} (h1 : argDs H k l = some (ds, p)) : argD H (k + 1) (.agg l) = some (.agg ds, p) := by simp only [argD, h1, Option.map_some]
end

section
variable {B : Id → Prop} {s : St}

/-- A row that stays as it is from now on. -/
theorem Sub_fix {n : Nat} {l : List (Nat × AV)} {h h' : List (Id × Blk)} {b : Id} {k : Nat} {es : List (List DV)} (hb : mkH h b = some (.row k es)) (hh : setH h b (.frow k es) = h') : Sub B ⟨⟨n, l⟩, mkH h⟩ ⟨⟨n, l⟩, mkH h'⟩ := by
  subst hh
  intro J F w a hE hH
  have hf : fix (mkH h) [b] = some (mkH (setH h b (.frow k es))) := by
    simp only [fix, List.all_cons, List.all_nil, Bool.and_true, okFix, hb, if_true, Option.some.injEq]
    rw [← upd_mkH]
    funext i
    simp only [List.contains_cons, List.contains_nil, Bool.or_false, beq_iff_eq, upd]
    by_cases e : i = b
    · subst e; simp [hb, fixB]
    · simp [e]
  obtain ⟨J', F', h1, h2, h3⟩ := fix_sound hH hf
  exact ⟨J', F', hE.ext hH h2, h1, h2.to0⟩

/-- Another word for what a value is, where blocks are known. -/
inductive WkH (H : Hp) : AV → AV → Prop
  | wk {x y : AV} (h : Wk x y) : WkH H x y
  | row (b : Id) (s n : Nat) (es : List (List DV)) (h : H b = some (.frow s es)) (hn : n = es.length) : WkH H (.row b s 0 n) (.val (.sl s es))
  | rowC (b : Id) (s o n : Nat) (es fs : List (List DV)) (h : H b = some (.frow s es)) (hn : o + n ≤ es.length) (hf : (es.drop o).take n = fs) : WkH H (.row b s o n) (.val (.sl s fs))
  | agg (l m : List AV) (hl : m.length = l.length) (h : ∀ (j : Nat) x y, l[j]? = some x → m[j]? = some y → WkH H x y) : WkH H (.agg l) (.agg m)

theorem WkH.rel {J : Id → JI} {F : Nat → Prop} {w : World} {H : Hp} {x y : AV} (h : WkH H x y) (hH : HRel J F w H) : ∀ {v : Value}, VRel J F w x v → VRel J F w y v := by
  induction h with
  | wk h => intro v hv; exact h.rel hv
  | row b s n es h hn =>
    intro v hv
    have := row_slice (ids := []) hH hv (.inr h) (by omega)
    subst hn
    simp only [List.drop_zero, List.take_length] at this
    exact .val _ _ (this.mono (fun g hg => hg.elim (fun h => h) (fun ⟨_, h, _⟩ => by cases h)) (fun _ _ => rfl))
  | rowC b s o n es fs h hn hf =>
    intro v hv
    have := row_slice (ids := []) hH hv (.inr h) hn
    rw [hf] at this
    exact .val _ _ (this.mono (fun g hg => hg.elim (fun h => h) (fun ⟨_, h, _⟩ => by cases h)) (fun _ _ => rfl))
  | agg l m hl h ih =>
    intro v hv
    cases hv with
    | agg _ vs hvl hr =>
      refine .agg m vs (by rw [hvl, hl]) (fun j y u q1 q2 => ?_)
      have hj : j < l.length := by rw [← hl]; exact (List.getElem?_eq_some_iff.1 q1).1
      exact ih j _ y (List.getElem?_eq_getElem hj) q1 (hr j _ u (List.getElem?_eq_getElem hj) q2)

def HasH (H : Hp) (l : List (Nat × AV)) : List (Nat × AV) → Prop
  | [] => True
  | (t, x) :: m => WkH H (look l t) x ∧ HasH H l m

theorem Sub_envH {n : Nat} {l m : List (Nat × AV)} {H : Hp} (h : HasH H l m) : Sub B ⟨⟨n, l⟩, H⟩ ⟨⟨n, m⟩, H⟩ := by
  intro J F w a hE hH
  have key : ∀ t, WkH H (look l t) (look m t) := by
    intro t
    induction m with
    | nil => exact .wk (.junk _)
    | cons p m ih =>
      obtain ⟨u, x⟩ := p
      simp only [look]
      split
      · rename_i e
        subst e
        exact h.1
      · exact ih h.2
  refine ⟨J, F, ⟨hE.1, fun t v h1 => (key t).rel hH (hE.2.1 t v h1), fun t ht => ?_⟩, hH, Ext0.refl _ _ _⟩
  have h1 := key t
  have h2 := hE.2.2 t ht
  simp only at h2 ⊢
  rw [h2] at h1
  generalize look m t = z at h1
  cases h1 with
  | wk h => cases h <;> rfl

/-! ### Other names -/
def sw (a b i : Id) : Id := if i = a then b else if i = b then a else i
theorem sw_sw (a b i : Id) : sw a b (sw a b i) = i := by
  unfold sw
  by_cases h1 : i = a
  · subst h1
    by_cases h2 : b = i
    · subst h2; simp
    · simp [h2]
  · by_cases h2 : i = b
    · subst h2; simp [h1]
    · simp [h1, h2]
mutual
def renV (σ : Id → Id) : AV → AV
  | .box id o => .box (σ id) o
  | .elt id i o => .elt (σ id) i o
  | .row id s o n => .row (σ id) s o n
  | .agg l => .agg (renL σ l)
  | .tup l => .tup (renL σ l)
  | .clo f l => .clo f (renL σ l)
  | .may c x => .may c (renV σ x)
  | .val d => .val d
  | .junk => .junk
def renL (σ : Id → Id) : List AV → List AV
  | [] => []
  | x :: l => renV σ x :: renL σ l
end
theorem renL_map (σ : Id → Id) : ∀ l, renL σ l = l.map (renV σ)
  | [] => rfl
  | x :: l => by simp only [renL, List.map_cons, renL_map σ l]
def renB (σ : Id → Id) : Blk → Blk
  | .box l => .box (renL σ l)
  | b => b

theorem ren_rel {σ : Id → Id} {J J' : Id → JI} {F : Nat → Prop} {w : World} (hJ : ∀ i, J' (σ i) = J i) {x : AV} {v : Value} (h : VRel J F w x v) : VRel J' F w (renV σ x) v := by
  induction h with
  | val d v h => exact .val d v h
  | box id o g own s cap h => exact .box _ o g own s cap ((hJ id).trans h)
  | boxDead id o p h => exact .boxDead _ o p ((hJ id).trans h)
  | elt id i o g own s cap h => exact .elt _ i o g own s cap ((hJ id).trans h)
  | eltDead id i o p h => exact .eltDead _ i o p ((hJ id).trans h)
  | row id o len g own s cap h hc => exact .row _ o len g own s cap ((hJ id).trans h) hc
  | rowNil id own s cap a h => exact .rowNil _ own s cap a ((hJ id).trans h)
  | rowEnd id o g own s cap h ho a c => exact .rowEnd _ o g own s cap ((hJ id).trans h) ho a c
  | rowDead id s o len p c h hc hp => exact .rowDead _ s o len p c ((hJ id).trans h) hc hp
  | agg l vs hl _ ih =>
    simp only [renV, renL_map]
    refine .agg _ vs (by simp [hl]) (fun j d v h1 h2 => ?_)
    rw [List.getElem?_map] at h1
    cases hq : l[j]? with
    | none => rw [hq] at h1; cases h1
    | some y => rw [hq] at h1; cases h1; exact ih j y v hq h2
  | tup l vs hl _ ih =>
    simp only [renV, renL_map]
    refine .tup _ vs (by simp [hl]) (fun j d v h1 h2 => ?_)
    rw [List.getElem?_map] at h1
    cases hq : l[j]? with
    | none => rw [hq] at h1; cases h1
    | some y => rw [hq] at h1; cases h1; exact ih j y v hq h2
  | clo f l vs hl _ ih =>
    simp only [renV, renL_map]
    refine .clo f _ vs (by simp [hl]) (fun j d v h1 h2 => ?_)
    rw [List.getElem?_map] at h1
    cases hq : l[j]? with
    | none => rw [hq] at h1; cases h1
    | some y => rw [hq] at h1; cases h1; exact ih j y v hq h2
  | may c x v h h' ih => exact .may c _ v (fun hc => ih hc) h'
  | junk v => exact .junk v

def renE (σ : Id → Id) : List (Nat × AV) → List (Nat × AV)
  | [] => []
  | (t, x) :: l => (t, renV σ x) :: renE σ l
def renH (σ : Id → Id) : List (Id × Blk) → List (Id × Blk)
  | [] => []
  | (k, b) :: l => (σ k, renB σ b) :: renH σ l
theorem look_renE (σ : Id → Id) : ∀ (l : List (Nat × AV)) (t : Nat), look (renE σ l) t = renV σ (look l t)
  | [], t => rfl
  | (u, x) :: l, t => by
    simp only [renE, look, look_renE σ l t]
    split <;> rfl
theorem mkH_renH {σ : Id → Id} (hσ : ∀ i, σ (σ i) = i) : ∀ (h : List (Id × Blk)) (i : Id), mkH (renH σ h) i = (mkH h (σ i)).map (renB σ)
  | [], i => rfl
  | (k, b) :: h, i => by
    simp only [renH, mkH_cons, mkH_renH hσ h i]
    by_cases e : σ k = i
    · subst e
      rw [if_pos rfl, hσ, if_pos rfl]
      rfl
    · rw [if_neg e, if_neg (fun q => e (by rw [q, hσ]))]

/-- **Blocks get other names.** -/
theorem Sub_ren (a b : Id) {n : Nat} {l : List (Nat × AV)} {h : List (Id × Blk)} : Sub (fun _ => False) ⟨⟨n, l⟩, mkH h⟩ ⟨⟨n, renE (sw a b) l⟩, mkH (renH (sw a b) h)⟩ := by
  intro J F w act hE hH
  have hσ := sw_sw a b
  generalize sw a b = σ at hσ
  have hJ : ∀ i, (fun i => J (σ i)) (σ i) = J i := fun i => by simp only [hσ]
  refine ⟨fun i => J (σ i), F, ⟨hE.1, fun t v h1 => ?_, fun t ht => ?_⟩, ⟨?_, ?_, ?_, ?_, ?_, hH.fsz⟩, ⟨fun _ h => h.elim, fun _ h => h, fun _ h => .inl h, ?_, fun _ _ _ => rfl, Nat.le_refl _, rfl, rfl, rfl⟩⟩
  · simp only [look_renE]
    exact ren_rel (J' := fun i => J (σ i)) (σ := σ) hJ (hE.2.1 t v h1)
  · have := hE.2.2 t ht
    simp only [look_renE] at this ⊢
    rw [this]
    rfl
  · intro i bb hb
    simp only [mkH_renH hσ] at hb
    cases hq : mkH h (σ i) with
    | none => rw [hq] at hb; cases hb
    | some b0 =>
      rw [hq] at hb
      cases hb
      have hr := hH.blk (σ i) b0 hq
      cases hr with
      | box cells g s cap cur e hj hg hs hcs h1 =>
        simp only [renB, renL_map]
        refine .box _ g s cap cur e hj hg (by simp [hs]) (fun j x v q1 q2 => ?_) h1
        rw [List.getElem?_map] at q1
        cases hq : cells[j]? with
        | none => rw [hq] at q1; cases q1
        | some y => rw [hq] at q1; cases q1; exact ren_rel (J' := fun i => J (σ i)) (σ := σ) hJ (hcs j y v hq q2)
      | row s es g cap cur e hj hg hs hn hm he hc h1 => exact .row s es g cap cur e hj hg hs hn hm he hc h1
      | rowNil s cap hj => exact .rowNil s cap hj
      | fbox cells g own s cap vals hj ho hF hcell hrep => exact .fbox cells g own s cap vals hj ho hF hcell hrep
      | frow s es g own cap vals hj ho hF he hsg hn hcell hrep => exact .frow s es g own cap vals hj ho hF he hsg hn hcell hrep
      | frowNil s cap own hj => exact .frowNil s cap own hj
      | dead hj => exact .dead hj
  · intro i hi
    simp only [mkH_renH hσ, Option.map_eq_none_iff] at hi
    exact hH.none (σ i) hi
  · intro i i' g o s c o' s' c' q1 q2
    have := hH.inj (σ i) (σ i') g o s c o' s' c' q1 q2
    rw [← hσ i, this, hσ]
  · rintro g ⟨i, s, c, q⟩
    exact hH.own g ⟨σ i, s, c, q⟩
  · intro i g o s c q
    exact hH.live (σ i) g o s c q
  · rintro g ⟨i, s, c, q⟩
    exact .inl ⟨σ i, s, c, q⟩

/-- A slice of nothing, as a row of one's own. -/
theorem Sub_nil {n t k : Nat} (b : Id) {l : List (Nat × AV)} {h : List (Id × Blk)} (hl : look l t = .val (.nils k)) (hb : mkH h b = none) : Sub (fun _ => False) ⟨⟨n, l⟩, mkH h⟩ ⟨⟨n, (t, .row b k 0 0) :: l⟩, mkH (setH h b (.row k []))⟩ := by
  intro J F w a hE hH
  have hJb := hH.none b hb
  have hle : ∀ i, (J i).le (updJ J b (.live none true k 0) i) := by
    intro i
    by_cases e : i = b
    · subst e; rw [hJb]; exact trivial
    · rw [updJ_other _ _ e]; exact JI.le_refl _
  have hmem : ∀ {i g o s c}, updJ J b (.live none true k 0) i = .live (some g) o s c → J i = .live (some g) o s c := by
    intro i g o s c q
    by_cases e : i = b
    · subst e; rw [updJ_same] at q; cases q
    · rwa [updJ_other _ _ e] at q
  rw [← upd_mkH]
  refine ⟨updJ J b (.live none true k 0), F, ⟨hE.1, fun j v h1 => ?_, fun j hj => ?_⟩, ⟨?_, ?_, ?_, ?_, ?_, hH.fsz⟩, ⟨fun _ h => h.elim, fun _ h => h, fun _ h => .inl h, ?_, fun _ _ _ => rfl, Nat.le_refl _, rfl, rfl, rfl⟩⟩
  · simp only [look]
    split
    · rename_i e
      subst e
      have := hE.2.1 t v h1
      simp only [hl] at this
      cases this.inv_val with
      | nils _ p => exact .rowNil b true k 0 p (updJ_same _ _ _)
    · exact (hE.2.1 j v h1).mono hle (fun _ h => h) (fun _ _ => rfl)
  · simp only [look]
    split
    · rename_i e
      subst e
      have := hE.2.2 t hj
      simp only at this
      rw [hl] at this
      cases this
    · exact hE.2.2 j hj
  · intro i bb hbb
    by_cases e : i = b
    · subst e
      simp only [upd, if_true] at hbb
      cases hbb
      exact .rowNil k 0 (updJ_same _ _ _)
    · simp only [upd, if_neg e] at hbb
      exact (hH.blk i bb hbb).mono hle (updJ_other _ _ e) (fun _ h => h) (fun _ _ => rfl) (fun _ _ _ _ => rfl)
  · intro i hi
    by_cases e : i = b
    · subst e; simp [upd] at hi
    · rw [updJ_other _ _ e]
      exact hH.none i (by simpa [upd, e] using hi)
  · intro i i' g o s c o' s' c' q1 q2
    exact hH.inj i i' g o s c o' s' c' (hmem q1) (hmem q2)
  · rintro g ⟨i, s, c, q⟩
    exact hH.own g ⟨i, s, c, hmem q⟩
  · intro i g o s c q
    exact hH.live i g o s c (hmem q)
  · rintro g ⟨i, s, c, q⟩
    exact .inl ⟨i, s, c, hmem q⟩

theorem outV_tup {rs : List ARes} {l : List AV} {ds : List DV} {p : List Id} (hx : outA s rs = some (.tup l)) (hd : argDs s.H 99 l = some (ds, p)) : outV s rs = some (.tup ds) := by
  simp only [outV, hx, Option.bind_some, outD, hd, Option.map_some]
theorem outV_one {rs : List ARes} {x : AV} {d : DV} {p : List Id} (hx : outA s rs = some x) (hn : (match x with | .tup _ => false | _ => true) = true) (hd : argD s.H 99 x = some (d, p)) : outV s rs = some d := by
  simp only [outV, hx, Option.bind_some]
  unfold outD
  split
  · simp at hn
  · simp only [hd, Option.map_some]

section
variable {C : FuncId → Con} {ρ : Opd → AV} {ρp : Bool → Opd → AV} {id b : Id} {h : List (Id × Blk)} {x : Opd}
/-- A number of a row of numbers. -/
theorem E_loadI {n' v : Int} {k : IntKind} {o : Nat} {xs : List Int} {pre post : List AV} (hx : ρ x = .box b (o + n'.toNat * 1)) (hb : mkH h b = some (.box (pre ++ xs.map (fun v => .val (.int k v)) ++ post))) (hp : pre.length = o) (hv : getO xs n' = some v) :
    semE C (mkH h) ρ ρp [] id (.r (.load 1 false x)) = some (.val (.int k v), mkH h) := by
  refine E_load ?_
  unfold getO at hv
  split at hv
  · have hlt := (List.getElem?_eq_some_iff.1 hv).1
    have hve := (List.getElem?_eq_some_iff.1 hv).2
    rw [hx]
    simp only [loadA, hb, Nat.mul_one]
    rw [if_pos (by simp; omega)]
    subst hp
    have : ((pre ++ xs.map (fun v => AV.val (.int k v)) ++ post).drop (pre.length + n'.toNat)).take 1 = [.val (.int k v)] := by
      rw [List.append_assoc, ← List.drop_drop, List.drop_left, List.drop_append_of_le_length (by simp; omega), List.drop_eq_getElem_cons (by simpa using hlt)]
      simp [hve]
    rw [this]
    rfl
  · cases hv
theorem E_aoffI {n' v : Int} {len s : Nat} {o : Nat} {xs : List Int} {y : Opd} {H : Hp} (hx : ρ x = .box b o) (hi : (ρ y).num = some n') (hl : xs.length = len) (hv : getO xs n' = some v) : semE C H ρ ρp [] id (.p (.aoff len s x y)) = some (.box b (o + n'.toNat * s), H) := by
  refine E_p ?_
  unfold getO at hv
  split at hv
  · rename_i h0
    have hlt := (List.getElem?_eq_some_iff.1 hv).1
    simp only [semP, hi, hx, AV.moved]
    rw [if_pos (by omega)]
  · cases hv
end
theorem Wk.of_eq {x y : AV} (h : x = y) : Wk x y := by subst h; exact .refl _
end
end Go.AI
namespace Go.AI
set_option linter.unusedVariables false
set_option linter.unusedSimpArgs false
theorem E_slice3 {C : FuncId → Con} {ρ : Opd → AV} {ρp : Bool → Opd → AV} {id : Id} {H : Hp} {α : Type} {e : α → List DV} {xs : List α} {x : Opd} {s : Nat} {lo hi mx : Option Opd} (hx : ρ x = .val (.sl s (xs.map e)))
    (hlo : optNum ρ 0 lo = some 0) (hhi : optNum ρ (xs.length : Int) hi = some 0) (hmx : optNum ρ (xs.length : Int) mx = some 0 ∧ mx.isSome = true) : semE C H ρ ρp [] id (.p (.slice s x lo hi mx)) = some (.val (.nils s), H) := by
  refine E_p ?_
  simp only [semP, hx, bounds, List.length_map, hlo, hhi, hmx.1]
  rw [if_pos trivial, if_pos (by omega)]
  simp [hmx.2]
end Go.AI
