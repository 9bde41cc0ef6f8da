/- What only computes: the model's operations on numbers, bools and strings. -/
import Derived.Test.YtpolaeonmmolnaaAIc
import Derived.ChangeKeysEq
namespace Go.AI
set_option linter.unusedVariables false
set_option linter.unusedSimpArgs false
variable {P : Program} {J : Id → JI} {F : Nat → Prop} {w : World}

theorem eqGuard_run (op : BinOp) (t : TypeId) (x y : Operand) {u v : Value} (h : ∀ c d, ¬ (u = .agg c ∧ v = .agg d)) (h' : ¬ (u = .nilIface ∧ v = .nilIface)) : (eqGuard op t x y u v).run P w = .ok () w := by
  cases u <;> cases v <;> first
    | (cases op <;> rfl)
    | exact absurd ⟨rfl, rfl⟩ h'
    | exact absurd ⟨rfl, rfl⟩ (h _ _)

theorem bytes_toList_eq (a b : ByteArray) : (a.toList == b.toList) = decide (a = b) := by
  rw [← beq_toListBytes]
  by_cases h : a = b
  · subst h
    have : (a == a) = true := by
      rw [beq_toListBytes]; exact beq_self_eq_true _
    simpa using this
  · simp only [h, decide_false]
    rw [beq_toListBytes, beq_eq_false_iff_ne]
    intro e
    apply h
    rw [ByteArray.toList_eq, ByteArray.toList_eq] at e
    obtain ⟨⟨x⟩⟩ := a
    obtain ⟨⟨y⟩⟩ := b
    simp only at e
    subst e
    rfl

theorem bin_sound {op : BinOp} {t : TypeId} {x y r : DV} {u v : Value} (h1 : Rep F w x u) (h2 : Rep F w y v) (hb : binD op x y = some r) :
    (∀ X Y, (eqGuard op t X Y u v).run P w = .ok () w) ∧ ∃ z, (binOp op t u v).run P w = .ok z w ∧ Rep F w r z := by
  cases h1 with
  | int k a =>
    cases h2 with
    | int k' b =>
      refine ⟨fun X Y => eqGuard_run op t X Y (by simp) (by simp), ?_⟩
      simp only [binD] at hb
      cases op <;> simp only [] at hb
      case shl =>
        split at hb
        · cases hb
          rename_i hb0
          refine ⟨_, ?_, .int _ _⟩
          simp only [binOp, Op.shift]
          rw [if_neg (by omega)]
          rfl
        · cases hb
      case shr =>
        split at hb
        · cases hb
          rename_i hb0
          refine ⟨_, ?_, .int _ _⟩
          simp only [binOp, Op.shift]
          rw [if_neg (by omega)]
          rfl
        · cases hb
      all_goals
        split at hb
        · cases hb
        · rename_i hk
          have hk' : k = k' := Classical.not_not.1 hk
          subst hk'
          first
            | (split at hb <;> cases hb; rename_i hb0; refine ⟨_, ?_, by constructor⟩; simp [binOp, Op.intDiv, hb0]; done)
            | (cases hb; refine ⟨_, ?_, by constructor⟩; simp [binOp, Op.intArith, Op.intCmp, bits, Op.intBits]; done)
            | (cases hb; done)
    | _ => simp [binD] at hb
  | str a =>
    cases h2 with
    | str b =>
      refine ⟨fun X Y => eqGuard_run op t X Y (by simp) (by simp), ?_⟩
      simp only [binD] at hb
      cases op <;> simp only [] at hb
      case add =>
        split at hb
        · cases hb
          rename_i hs
          refine ⟨_, ?_, .str _⟩
          have : IntKind.i64.max = 9223372036854775807 := by decide
          simp only [binOp, Op.stringOp, this]
          rw [if_neg (by omega)]
          rfl
        · cases hb
      all_goals first
        | (cases hb; refine ⟨_, ?_, by constructor⟩; simp [binOp, Op.stringOp, ← bytes_toList_eq]; done)
        | (cases hb; done)
    | _ => simp [binD] at hb
  | _ => simp [binD] at hb

theorem un_sound {op : UnOp} {d r : DV} {v : Value} (h : Rep F w d v) (hs : unD op d = some r) : ∃ z, (Op.unary op v).run P w = .ok z w ∧ Rep F w r z := by
  cases h <;> cases op <;> first
    | (cases hs; done)
    | (cases hs; exact ⟨_, rfl, by constructor⟩)

theorem conv_sound {src dst : TypeId} {k k' : IntKind} {n : Int} {X : TypeDesc} (hs : P.underlying src = some X) (hd : P.underlying dst = some (.int k)) :
    (convert src dst (.int k' n)).run P w = .ok (.int k (k.wrap n)) w := by
  simp [convert, run_underlying hs, run_underlying hd, Conv.intToInt]


/-! ### Rows of cells held against one another -/

/-- The kinds of a type's cells, one behind the other, where they are bools, numbers and strings. -/
def kinds (P : Program) : Nat → TypeId → Option (List Nat)
  | 0, _ => none
  | d + 1, t => match P.underlying t with
    | some .bool => if P.cellsOf t = 1 then some [0] else none
    | some (.int _) => if P.cellsOf t = 1 then some [1] else none
    | some .string => if P.cellsOf t = 1 then some [2] else none
    | some (.struct fs) => if P.stoodInHeld t then none else
      match fs.toList.foldl (fun (acc : Option (List Nat)) f => acc.bind fun l => if f.name != "_" && f.offset == l.length then (kinds P d f.type).map (l ++ ·) else none) (some []) with
      | some l => if l.length = P.cellsOf t then some l else none
      | none => none
    | some (.array n e) => match kinds P d e with
      | some l => if P.cellsOf t = n * P.cellsOf e then some (List.replicate n l).flatten else none
      | none => none
    | _ => none

def cellsRel (F : Nat → Prop) (w : World) (ds : List DV) (vs : List Value) : Prop := vs.length = ds.length ∧ ∀ (j : Nat) d v, ds[j]? = some d → vs[j]? = some v → Rep F w d v

theorem eqDs_append {k l : List Nat} {a b c d : List DV} {r : Bool} (hk : k.length = a.length) (hl : a.length = b.length) (h : eqDs (k ++ l) (a ++ c) (b ++ d) = some r) :
    ∃ x y, eqDs k a b = some x ∧ eqDs l c d = some y ∧ r = (x && y) := by
  induction a generalizing k b r with
  | nil =>
    have : b = [] := List.eq_nil_of_length_eq_zero hl.symm
    subst this
    have : k = [] := List.eq_nil_of_length_eq_zero hk
    subst this
    exact ⟨true, r, rfl, h, by simp⟩
  | cons x a ih =>
    cases b with
    | nil => simp at hl
    | cons y b =>
      cases k with
      | nil => simp at hk
      | cons q k =>
        simp only [List.cons_append, eqDs] at h
        split at h
        · cases h
          rename_i p q h1 h2
          obtain ⟨u, v, hu, hv, rfl⟩ := ih (by simpa using hk) (by simpa using hl) h2
          exact ⟨p && u, v, by simp only [eqDs, h1, hu], hv, by rw [Bool.and_assoc]⟩
        · cases h

theorem eqDs_length {k : List Nat} {a b : List DV} {r : Bool} (h : eqDs k a b = some r) : k.length = a.length ∧ a.length = b.length := by
  induction a generalizing k b r with
  | nil => cases b <;> cases k <;> simp_all [eqDs]
  | cons x a ih =>
    cases b with
    | nil => cases k <;> simp [eqDs] at h
    | cons y b =>
      cases k with
      | nil => simp [eqDs] at h
      | cons q k =>
        simp only [eqDs] at h
        split at h
        · rename_i h2; have := ih h2; simp [this.1, this.2]
        · cases h

theorem info_of_underlying {t : TypeId} {d : TypeDesc} (h : P.underlying t = some d) : ∃ i, P.info? t = some i := by
  unfold Program.underlying at h
  split at h
  · rename_i h1; exact ⟨_, h1⟩
  · rename_i h1; exact ⟨_, h1⟩
  · cases h

theorem run_sizeOf {t : TypeId} {i : TypeInfo} (h : P.info? t = some i) : (sizeOf t).run P w = .ok i.size w := by
  simp [sizeOf, typeInfo, h]

theorem cellsOf_info {t : TypeId} {i : TypeInfo} (h : P.info? t = some i) : P.cellsOf t = i.size := by simp [Program.cellsOf, h]

def isAggB (P : Program) (t : TypeId) : Bool := match P.underlying t with
  | some (.struct _) | some (.array _ _) => true
  | _ => false

theorem run_isAgg {t : TypeId} {d : TypeDesc} (h : P.underlying t = some d) : (isAgg t).run P w = .ok (isAggB P t) w := by
  unfold isAgg isAggB
  rw [Sem.run_bind, run_underlying h, h]
  cases d <;> rfl

theorem run_part {t : TypeId} {d : TypeDesc} (h : P.underlying t = some d) (cs : Array Value) (o : Nat) : (part t cs o).run P w =
    if isAggB P t = true then .ok (.agg (cs.extract o (o + P.cellsOf t))) w else (match cs[o]? with | some v => .ok v w | none => .halt (.stuck "part: no such cell") w) := by
  obtain ⟨i, hi⟩ := info_of_underlying h
  unfold part
  rw [Sem.run_bind, run_isAgg h, Result.andThen_ok]
  cases isAggB P t
  · simp only [Bool.false_eq_true, if_false]
    cases cs[o]? <;> rfl
  · simp only [if_true, Sem.run_bind, run_sizeOf hi, Result.andThen_ok, Sem.run_pure, cellsOf_info hi]

/-- What a value of a plain type holds. -/
def Holds (P : Program) (F : Nat → Prop) (w : World) (t : TypeId) (ds : List DV) (v : Value) : Prop :=
  if isAggB P t = true then ∃ vs : List Value, v = .agg vs.toArray ∧ cellsRel F w ds vs else ∃ d, ds = [d] ∧ Rep F w d v

theorem kinds_cells {d : Nat} {t : TypeId} {l : List Nat} (h : kinds P d t = some l) : ∃ x, P.underlying t = some x := by
  cases d with
  | zero => simp [kinds] at h
  | succ d =>
    unfold kinds at h
    split at h <;> first | exact ⟨_, by assumption⟩ | simp at h

theorem kinds_length : ∀ (d : Nat) (t : TypeId) (l : List Nat), kinds P d t = some l → l.length = P.cellsOf t := by
  intro d
  induction d with
  | zero => intro t l h; simp [kinds] at h
  | succ d ih =>
    intro t l h
    unfold kinds at h
    split at h
    · split at h
      · cases h; simpa using (by assumption : P.cellsOf t = 1).symm
      · cases h
    · split at h
      · cases h; simpa using (by assumption : P.cellsOf t = 1).symm
      · cases h
    · split at h
      · cases h; simpa using (by assumption : P.cellsOf t = 1).symm
      · cases h
    · split at h
      · cases h
      · split at h
        · split at h
          · cases h; assumption
          · cases h
        · cases h
    · split at h
      · split at h
        · cases h
          rename_i n e _ _ m hm hc
          rw [hc, ← ih e m hm]
          simp
        · cases h
      · cases h
    · cases h

/-- A part of a row of plain cells. -/
theorem part_holds {d : Nat} {t : TypeId} {l : List Nat} (h : kinds P d t = some l) {ds : List DV} {vs : List Value} (hr : cellsRel F w ds vs) {o : Nat} (ho : o + P.cellsOf t ≤ ds.length) :
    ∃ v, (part t vs.toArray o).run P w = .ok v w ∧ Holds P F w t ((ds.drop o).take (P.cellsOf t)) v := by
  obtain ⟨x, hx⟩ := kinds_cells h
  rw [run_part hx]
  unfold Holds
  cases ha : isAggB P t
  · simp only [Bool.false_eq_true, if_false]
    have h1 : P.cellsOf t = 1 := by
      cases d with
      | zero => simp [kinds] at h
      | succ d =>
        unfold kinds at h
        unfold isAggB at ha
        rw [hx] at h ha
        cases x <;> simp_all
    rw [h1] at ho ⊢
    have hd : ds[o]? = some ds[o] := List.getElem?_eq_getElem (by omega)
    have hv : vs[o]? = some (vs[o]'(by rw [hr.1]; omega)) := List.getElem?_eq_getElem (by rw [hr.1]; omega)
    refine ⟨vs[o]'(by rw [hr.1]; omega), by simp [hv], ds[o], ?_, hr.2 o _ _ hd hv⟩
    rw [List.drop_eq_getElem_cons (by omega)]
    rfl
  · simp only [if_true]
    refine ⟨_, rfl, (vs.drop o).take (P.cellsOf t), ?_, ?_, ?_⟩
    · simp [List.extract_toArray, List.extract_eq_take_drop]
    · simp only [List.length_take, List.length_drop, hr.1]
    · intro j d v hd hv
      rw [List.getElem?_take] at hd hv
      split at hd
      · rename_i hj
        rw [if_pos hj] at hv
        rw [List.getElem?_drop] at hd hv
        exact hr.2 _ _ _ hd hv
      · cases hd

theorem fold_none (d : Nat) (fs : List Field) : (fs.foldl (fun (acc : Option (List Nat)) f => acc.bind fun l => if f.name != "_" && f.offset == l.length then (kinds P d f.type).map (l ++ ·) else none) none) = none := by
  induction fs with
  | nil => rfl
  | cons f fs ih => simpa using ih

theorem fold_prefix (d : Nat) : ∀ (fs : List Field) (x m : List Nat), (fs.foldl (fun (acc : Option (List Nat)) f => acc.bind fun l => if f.name != "_" && f.offset == l.length then (kinds P d f.type).map (l ++ ·) else none) (some x)) = some m → ∃ y, m = x ++ y := by
  intro fs
  induction fs with
  | nil => intro x m h; simp at h; exact ⟨[], by simp [h]⟩
  | cons g l ihl =>
    intro x m h
    simp only [List.foldl_cons, Option.bind_some] at h
    split at h
    · cases hk : kinds P d g.type with
      | none => rw [hk, Option.map_none, fold_none] at h; cases h
      | some q =>
        rw [hk, Option.map_some] at h
        obtain ⟨y, rfl⟩ := ihl _ _ h
        exact ⟨q ++ y, by simp⟩
    · rw [fold_none] at h; cases h

def EqAll (P : Program) (F : Nat → Prop) (D : Nat) (t : TypeId) (l : List Nat) : Prop := ∀ (w : World) (as bs : List DV) (u v : Value) (r : Bool), Holds P F w t as u → Holds P F w t bs v → eqDs l as bs = some r → (Op.equalIn D t u v).run P w = .ok r w

theorem eqFields_plain {d D : Nat} {as bs : List DV} {us vs : List Value} (ha : cellsRel F w as us) (hb : cellsRel F w bs vs) (hab : as.length = bs.length) (ih : ∀ t l, kinds P d t = some l → EqAll P F D t l) :
    ∀ (fs : List Field) (x y : List Nat) (r : Bool), (x ++ y).length = as.length →
      (fs.foldl (fun (acc : Option (List Nat)) f => acc.bind fun l => if f.name != "_" && f.offset == l.length then (kinds P d f.type).map (l ++ ·) else none) (some x)) = some (x ++ y) →
      eqDs y (as.drop x.length) (bs.drop x.length) = some r → (Op.eqFields D us.toArray vs.toArray fs).run P w = .ok r w := by
  intro fs
  induction fs with
  | nil =>
    intro x y r hn hf he
    simp only [List.foldl_nil, Option.some.injEq] at hf
    have : y = [] := by simpa using hf
    subst this
    have h0 : as.drop x.length = [] := List.drop_eq_nil_of_le (by simp at hn; omega)
    have h1 : bs.drop x.length = [] := List.drop_eq_nil_of_le (by simp at hn; omega)
    rw [h0, h1] at he
    simp [eqDs] at he
    subst he
    simp [Op.eqFields]
  | cons f fs ihf =>
    intro x y r hn hf he
    simp only [List.foldl_cons, Option.bind_some] at hf
    split at hf
    · rename_i hc
      simp only [Bool.and_eq_true, bne_iff_ne, ne_eq, beq_iff_eq] at hc
      obtain ⟨hname, hoff⟩ := hc
      cases hk : kinds P d f.type with
      | none => rw [hk, Option.map_none, fold_none] at hf; cases hf
      | some q =>
        rw [hk, Option.map_some] at hf
        obtain ⟨z, hz⟩ := fold_prefix d _ _ _ hf
        rw [List.append_assoc] at hz
        have hz := List.append_cancel_left hz
        subst hz
        have hq := kinds_length d _ _ hk
        have hlen : x.length + q.length + z.length = as.length := by simp at hn; omega
        have hsplit : ∀ l : List DV, l.drop x.length = (l.drop x.length).take (P.cellsOf f.type) ++ l.drop (x ++ q).length := by
          intro l
          rw [List.length_append, hq, ← List.drop_drop, List.take_append_drop]
        rw [hsplit as, hsplit bs] at he
        obtain ⟨p1, p2, h1, h2, rfl⟩ := eqDs_append (by simp only [List.length_take, List.length_drop]; omega) (by simp only [List.length_take, List.length_drop]; omega) he
        obtain ⟨u, hu, hU⟩ := part_holds (o := x.length) hk ha (by omega)
        obtain ⟨v, hv, hV⟩ := part_holds (o := x.length) hk hb (by omega)
        have heq := ih _ _ hk w _ _ u v p1 hU hV h1
        have hrest := ihf (x ++ q) z p2 (by simp at hn ⊢; omega) (by rw [List.append_assoc]; exact hf) h2
        simp only [Op.eqFields, hname, ne_eq, not_false_eq_true, if_true, Sem.run_bind, hoff, hu, hv, heq, Result.andThen_ok]
        cases p1
        · simp
        · simpa using hrest
    · rw [fold_none] at hf; cases hf

theorem eqItems_plain {d D : Nat} {e : TypeId} {l : List Nat} (hp : kinds P d e = some l) {as bs : List DV} {us vs : List Value} (ha : cellsRel F w as us) (hb : cellsRel F w bs vs) (hab : as.length = bs.length) (ih : EqAll P F D e l) :
    ∀ (m i : Nat) (r : Bool), (i + m) * P.cellsOf e = as.length → eqDs (List.replicate m l).flatten (as.drop (i * P.cellsOf e)) (bs.drop (i * P.cellsOf e)) = some r →
      (Op.eqItems D e (P.cellsOf e) us.toArray vs.toArray (List.range' i m)).run P w = .ok r w := by
  have hq := kinds_length d _ _ hp
  intro m
  induction m with
  | zero =>
    intro i r hn he
    rw [List.drop_eq_nil_of_le (by simp at hn; omega), List.drop_eq_nil_of_le (by simp at hn; omega)] at he
    simp [eqDs] at he
    subst he
    simp [Op.eqItems]
  | succ m ihm =>
    intro i r hn he
    have hn' : (i + 1 + m) * P.cellsOf e = as.length := by rw [show i + 1 + m = i + (m + 1) by omega]; exact hn
    have h1 : i * P.cellsOf e + P.cellsOf e + m * P.cellsOf e = as.length := by
      rw [← hn', Nat.add_mul, Nat.succ_mul]
    have hsplit : ∀ l : List DV, l.drop (i * P.cellsOf e) = (l.drop (i * P.cellsOf e)).take (P.cellsOf e) ++ l.drop ((i + 1) * P.cellsOf e) := by
      intro l
      rw [Nat.succ_mul, ← List.drop_drop, List.take_append_drop]
    rw [hsplit as, hsplit bs, List.replicate_succ, List.flatten_cons] at he
    obtain ⟨x, y, hx, hy, rfl⟩ := eqDs_append (by simp only [List.length_take, List.length_drop]; omega) (by simp only [List.length_take, List.length_drop]; omega) he
    obtain ⟨u, hu, hU⟩ := part_holds (o := i * P.cellsOf e) hp ha (by omega)
    obtain ⟨v, hv, hV⟩ := part_holds (o := i * P.cellsOf e) hp hb (by omega)
    have heq := ih w _ _ u v x hU hV hx
    have hrest := ihm (i + 1) y hn' hy
    simp only [List.range'_succ, Op.eqItems, Sem.run_bind, hu, hv, heq, Result.andThen_ok]
    cases x
    · simp
    · simpa using hrest

theorem eqD_run {q : Nat} {x y : DV} {u v : Value} {r : Bool} (hx : Rep F w x u) (hy : Rep F w y v) (h : eqD q x y = some r) (D : Nat) {t : TypeId} {td : TypeDesc} (ht : P.underlying t = some td)
    (hk : (q = 0 ∧ td = .bool) ∨ (q = 1 ∧ ∃ k, td = .int k) ∨ (q = 2 ∧ td = .string)) : (Op.equalIn (D + 1) t u v).run P w = .ok r w := by
  unfold eqD at h
  split at h
  · split at h
    · cases h
      rename_i hkk
      subst hkk
      cases hx; cases hy
      rcases hk with ⟨h, _⟩ | ⟨_, k, rfl⟩ | ⟨h, _⟩
      · cases h
      · exact run_equalIn_int w D t _ k _ _ ht
      · cases h
    · cases h
  · cases h
    cases hx; cases hy
    rcases hk with ⟨_, rfl⟩ | ⟨h, _⟩ | ⟨h, _⟩
    · exact run_equalIn_bool' w D t _ _ ht
    · cases h
    · cases h
  · cases h
    cases hx; cases hy
    rcases hk with ⟨h, _⟩ | ⟨h, _⟩ | ⟨_, rfl⟩
    · cases h
    · cases h
    · rw [run_equalIn_string w D t _ _ ht, bytes_toList_eq]
  · cases h

theorem eqDs_one {q : Nat} {x y : DV} {r : Bool} (h : eqDs [q] [x] [y] = some r) : eqD q x y = some r := by
  simp only [eqDs] at h
  split at h
  · rename_i h1 h2; cases h2; rw [h1, ← h]; simp
  · cases h

/-- **Two values of a type of plain cells are held against one another cell by cell.** -/
theorem eq_plain : ∀ (d : Nat) (t : TypeId) (l : List Nat), kinds P d t = some l → ∀ D, d ≤ D → EqAll P F D t l := by
  intro d
  induction d with
  | zero => intro t l h; simp [kinds] at h
  | succ d ih =>
    intro t l h D hD w as bs u v r hu hv he
    obtain ⟨D, rfl⟩ : ∃ m, D = m + 1 := ⟨D - 1, by omega⟩
    obtain ⟨x, hx⟩ := kinds_cells h
    have one : ∀ q, l = [q] → isAggB P t = false → (q = 0 ∧ x = .bool) ∨ (q = 1 ∧ ∃ k, x = .int k) ∨ (q = 2 ∧ x = .string) → (Op.equalIn (D + 1) t u v).run P w = .ok r w := by
      intro q hl ha hk
      subst hl
      unfold Holds at hu hv
      rw [ha] at hu hv
      simp only [Bool.false_eq_true, if_false] at hu hv
      obtain ⟨a, rfl, hu⟩ := hu
      obtain ⟨b, rfl, hv⟩ := hv
      exact eqD_run hu hv (eqDs_one he) D hx hk
    have rows : isAggB P t = true → ∃ us vs, u = .agg (List.toArray us) ∧ v = .agg (List.toArray vs) ∧ cellsRel F w as us ∧ cellsRel F w bs vs := by
      intro ha
      unfold Holds at hu hv
      rw [ha] at hu hv
      simp only [if_true] at hu hv
      obtain ⟨us, rfl, hu⟩ := hu
      obtain ⟨vs, rfl, hv⟩ := hv
      exact ⟨us, vs, rfl, rfl, hu, hv⟩
    have hlen := kinds_length _ _ _ h
    obtain ⟨l1, l2⟩ := eqDs_length he
    unfold kinds at h
    rw [hx] at h
    cases x with
    | bool => simp only [] at h; split at h <;> cases h; exact one 0 rfl (by simp [isAggB, hx]) (.inl ⟨rfl, rfl⟩)
    | int k => simp only [] at h; split at h <;> cases h; exact one 1 rfl (by simp [isAggB, hx]) (.inr (.inl ⟨rfl, k, rfl⟩))
    | string => simp only [] at h; split at h <;> cases h; exact one 2 rfl (by simp [isAggB, hx]) (.inr (.inr ⟨rfl, rfl⟩))
    | struct fs =>
      simp only [] at h
      split at h
      · cases h
      · rename_i hst
        split at h
        · rename_i m hm
          split at h
          · cases h
            obtain ⟨us, vs, rfl, rfl, ha, hb⟩ := rows (by simp [isAggB, hx])
            have hf : P.fieldsOf t = fs := by simp [Program.fieldsOf, hx]
            rw [run_equalIn_struct w D t _ _ (by rw [hf]; exact hx) (by simpa using hst), hf]
            exact eqFields_plain ha hb l2 (fun t' l' h' => ih t' l' h' D (by omega)) fs.toList [] l r (by simpa using l1) (by simpa using hm) (by simpa using he)
          · cases h
        · cases h
    | array n e =>
      simp only [] at h
      split at h
      · rename_i m hm
        split at h
        · cases h
          rename_i hc
          obtain ⟨us, vs, rfl, rfl, ha, hb⟩ := rows (by simp [isAggB, hx])
          obtain ⟨y, hy⟩ := kinds_cells hm
          obtain ⟨i, hi⟩ := info_of_underlying hy
          rw [run_equalIn_array w D _ _ hx hi, List.range_eq_range']
          refine eqItems_plain hm ha hb l2 (ih e m hm D (by omega)) n 0 r ?_ (by simpa using he)
          rw [Nat.zero_add, ← hc, ← hlen, l1]
        · cases h
      · cases h
    | _ => simp at h

end Go.AI
