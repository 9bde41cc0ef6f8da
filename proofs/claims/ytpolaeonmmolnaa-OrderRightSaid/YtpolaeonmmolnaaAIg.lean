/- What only computes: the whole of it. -/
import Derived.Test.YtpolaeonmmolnaaAIf
import Derived.Laws.Cover1
namespace Go.AI
set_option linter.unusedVariables false
set_option linter.unusedSimpArgs false
section
variable {P : Program} {J : Id → JI} {F : Nat → Prop} {w : World} {ρ : Opd → AV} {ρp : Bool → Opd → AV} {a : Act}

def Yields (P : Program) (J : Id → JI) (F : Nat → Prop) (w : World) (a : Act) (o : Oper) (x : AV) : Prop := ∃ v, (execOp a.eval o).run P w = .ok (.value v) w ∧ VRel J F w x v

theorem zeros_rel {t : TypeId} {z : List DV} (h : zeros P t = some z) : ∃ i v, P.info? t = some i ∧ i.zero = some v ∧ (zeroValue t).run P w = .ok v w ∧ cellsRel F w z v.cells.toList := by
  unfold zeros at h
  split at h
  · rename_i i hi
    split at h
    · rename_i v hv
      refine ⟨i, v, hi, hv, ?_, ?_⟩
      · simp [zeroValue, typeInfo, hi, hv]
      · exact ⟨(lits_length h).symm, lits_rep h⟩
    · cases h
  · cases h

theorem cellsRel.toV {ds : List DV} {vs : List Value} (h : cellsRel F w ds vs) : vs.length = (ds.map AV.val).length ∧ ∀ (j : Nat) y u, (ds.map AV.val)[j]? = some y → vs[j]? = some u → VRel J F w y u := by
  refine ⟨by simpa using h.1, ?_⟩
  intro j y u h1 h2
  rw [List.getElem?_map] at h1
  cases hd : ds[j]? with
  | none => rw [hd] at h1; simp at h1
  | some d => rw [hd] at h1; simp at h1; subst h1; exact .val _ _ (h.2 j d u hd h2)

theorem build_sound (hr : ORel J F w ρ a) {o : Oper} {t : TypeId} {ps : Array (Nat × Operand)} (ho : o.op = .build t ps) {place : Nat → Option (Nat × Nat)} {z : List DV} {qs : List (Nat × Nat × Opd)}
    (hz : zeros P t = some z) (hq : cParts P place ps.toList = some qs) {x : AV} (hs : semP ρ ρp (.build z qs) = some x)
    (hrun : ∀ cells cs : Array Value, Instr.fill place cs (ps.toList.map fun (i, x) => (i, a.eval x)) = some cells → ∀ zv, (zeroValue t).run P w = .ok zv w → zv.cells = cs → (Instr.build t (ps.map fun (i, x) => (i, a.eval x))).run P w = .ok (.agg cells) w) :
    Yields P J F w a o x := by
  obtain ⟨i, v, hi, hv, hzr, hzc⟩ := zeros_rel (F := F) (w := w) hz
  simp only [semP, Option.map_eq_some_iff] at hs
  obtain ⟨m, hm, rfl⟩ := hs
  obtain ⟨us, hu, hU⟩ := parts_run hr hq hm hzc.toV
  refine ⟨.agg us.toArray, ?_, .agg _ _ hU.1 hU.2⟩
  unfold execOp
  simp only [ho, Sem.run_bind]
  rw [hrun us.toArray v.cells (by simpa using hu) v hzr rfl]
  rfl

theorem num_run {x : Operand} {i : Opd} {n : Int} (hr : ORel J F w ρ a) (hi : cOpd x = some i) (hn : (ρ i).num = some n) : ∃ k, a.eval x = .int k n := (hr.ev hi).num hn

theorem bound_run {m : Option Operand} {m' : Option Opd} (hr : ORel J F w ρ a) (hm : cOpt m = some m') {d n : Int} (h : optNum ρ d m' = some n) :
    (m = none ∧ n = d) ∨ ∃ x k, m = some x ∧ a.eval x = .int k n := by
  cases m with
  | none => simp [cOpt] at hm; subst hm; simp [optNum] at h; exact .inl ⟨rfl, h.symm⟩
  | some x =>
    simp only [cOpt, Option.map_eq_some_iff] at hm
    obtain ⟨y, hy, rfl⟩ := hm
    obtain ⟨k, hk⟩ := num_run hr hy h
    exact .inr ⟨x, k, rfl, hk⟩

theorem bounds_inv {n : Nat} {ρ : Opd → AV} {lo hi mx : Option Opd} {l h m : Nat} (hb : bounds n ρ lo hi mx = some (l, h, m)) :
    ∃ l' h' m' : Int, optNum ρ n mx = some m' ∧ optNum ρ n hi = some h' ∧ optNum ρ 0 lo = some l' ∧
      0 ≤ l' ∧ l' ≤ h' ∧ h' ≤ m' ∧ m' ≤ (n : Int) ∧ l = l'.toNat ∧ h = h'.toNat ∧ m = m'.toNat := by
  unfold bounds at hb
  split at hb
  · rename_i m' h' l' h1 h2 h3
    split at hb
    · rename_i hc
      simp only [Option.some.injEq, Prod.mk.injEq] at hb
      exact ⟨l', h', m', h1, h2, h3, hc.1, hc.2.1, hc.2.2.1, hc.2.2.2, hb.1.symm, hb.2.1.symm, hb.2.2.symm⟩
    · cases hb
  · cases hb

/-- The bounds that Go reckons: with no third one the capacity stands in its place. -/
theorem sliceBounds_run {isSlice : Bool} {n c : Nat} (hnc : n ≤ c) (hr : ORel J F w ρ a) {lo hi mx : Option Operand} {lo' hi' mx' : Option Opd} (h1 : cOpt lo = some lo') (h2 : cOpt hi = some hi') (h3 : cOpt mx = some mx')
    (hmh : ¬ (mx'.isSome = true ∧ hi'.isNone = true)) {l h m : Nat} (hb : bounds n ρ lo' hi' mx' = some (l, h, m)) :
    l ≤ h ∧ h ≤ m ∧ m ≤ n ∧ (Instr.sliceBounds isSlice n c (lo.map a.eval) (hi.map a.eval) (mx.map a.eval)).run P w = .ok (l, h, if mx'.isSome = true then m else c) w := by
  obtain ⟨l', h', m', e1, e2, e3, c1, c2, c3, c4, rfl, rfl, rfl⟩ := bounds_inv hb
  refine ⟨by omega, by omega, by omega, ?_⟩
  have b1 := bound_run hr h3 e1
  have b2 := bound_run hr h2 e2
  have b3 := bound_run hr h1 e3
  have hsb : ∀ k (i : Int) (y : Nat) code, 0 ≤ i → i ≤ y → (Instr.sliceBound (.int k i) y code).run P w = .ok i.toNat w := fun k i y code q1 q2 => run_sliceBound w k i y code q1 q2
  have hmx : mx'.isSome = mx.isSome := by
    cases mx with
    | none => simp [cOpt] at h3; subst h3; rfl
    | some x => simp only [cOpt, Option.map_eq_some_iff] at h3; obtain ⟨y, _, rfl⟩ := h3; rfl
  have hhx : hi'.isNone = hi.isNone := by
    cases hi with
    | none => simp [cOpt] at h2; subst h2; rfl
    | some x => simp only [cOpt, Option.map_eq_some_iff] at h2; obtain ⟨y, _, rfl⟩ := h2; rfl
  rw [hmx, hhx] at hmh
  unfold Instr.sliceBounds
  rcases b1 with ⟨rfl, rfl⟩ | ⟨xm, km, rfl, em⟩
  · simp only [Option.map_none, Sem.run_bind, Sem.run_pure, Result.andThen_ok, Option.isSome_none, Bool.false_eq_true, if_false, hmx]
    rcases b2 with ⟨rfl, rfl⟩ | ⟨xh, kh, rfl, eh⟩
    · simp only [Option.map_none, Sem.run_pure, Result.andThen_ok, Int.toNat_natCast]
      rcases b3 with ⟨rfl, rfl⟩ | ⟨xl, kl, rfl, el⟩
      · simp
      · simp only [Option.map_some, el, Sem.run_bind, hsb kl l' n .sliceB c1 (by omega), Result.andThen_ok, Sem.run_pure]
    · simp only [Option.map_some, eh, Sem.run_bind]
      rw [hsb kh h' c _ (by omega) (by omega)]
      simp only [Result.andThen_ok]
      rcases b3 with ⟨rfl, rfl⟩ | ⟨xl, kl, rfl, el⟩
      · simp
      · simp only [Option.map_some, el, Sem.run_bind, hsb kl l' h'.toNat .sliceB c1 (by omega), Result.andThen_ok, Sem.run_pure]
  · simp only [Option.map_some, em, Sem.run_bind, Option.isSome_some, if_true, hmx]
    rw [hsb km m' c _ (by omega) (by omega)]
    simp only [Result.andThen_ok]
    rcases b2 with ⟨rfl, _⟩ | ⟨xh, kh, rfl, eh⟩
    · exact absurd ⟨rfl, rfl⟩ hmh
    · simp only [Option.map_some, eh, Sem.run_bind]
      rw [hsb kh h' m'.toNat _ (by omega) (by omega)]
      simp only [Result.andThen_ok]
      rcases b3 with ⟨rfl, rfl⟩ | ⟨xl, kl, rfl, el⟩
      · simp
      · simp only [Option.map_some, el, Sem.run_bind, hsb kl l' h'.toNat .slice3C c1 (by omega), Result.andThen_ok, Sem.run_pure]

/-- A slice of data, from and to. -/
theorem slice_rep {s : Nat} {l : List (List DV)} {p : Option Addr} {len c : Nat} (hv : Rep F w (.sl s l) (.slice p len c)) {x y m : Nat} (h1 : x ≤ y) (h2 : y ≤ l.length) (h3 : y ≤ m) (h4 : m ≤ c) :
    Rep F w (.sl s ((l.take y).drop x)) (.slice (if m = x then p else p.map (·.add (x * s))) (y - x) (m - x)) := by
  cases hv with
  | sl0 => simp at h2; subst h2; simp at h1; subst h1; simpa using Rep.sl0 s _ _
  | sl _ _ g o _ vals hs hc hsg hF hcell hrep =>
    by_cases he : y = x
    · subst he
      have : (l.take y).drop y = [] := by rw [List.drop_eq_nil_of_le]; rw [List.length_take]; omega
      rw [this, Nat.sub_self]
      exact Rep.sl0 s _ _
    · have hlen : ((l.take y).drop x).length = y - x := by simp only [List.length_drop, List.length_take]; omega
      have hget : ∀ i e, ((l.take y).drop x)[i]? = some e → l[x + i]? = some e := by
        intro i e h
        rw [List.getElem?_drop, List.getElem?_take] at h
        split at h
        · exact h
        · cases h
      rw [if_neg (by omega), ← hlen, Option.map_some, Addr.add_mid]
      refine Rep.sl s _ g (o + x * s) (m - x) (fun i j => vals (x + i) j) ?_ (by rw [hlen]; omega) ?_ hF ?_ ?_
      · intro e hm
        obtain ⟨i, hi⟩ := List.getElem?_of_mem hm
        exact hs e (List.mem_of_getElem? (hget i e hi))
      · intro e hm
        obtain ⟨i, hi⟩ := List.getElem?_of_mem hm
        exact hsg e (List.mem_of_getElem? (hget i e hi))
      · intro i j e d h h'
        have := hcell (x + i) j e d (hget i e h) h'
        rw [← this]
        congr 2
        rw [Nat.add_mul]; omega
      · intro i j e d h h'
        exact hrep (x + i) j e d (hget i e h) h'

/-- A slice of a row, from and to. -/
theorem slice_row {id : Id} {s o n : Nat} {v : Value} (hv : VRel J F w (.row id s o n) v) : ∃ p c, v = .slice p n c ∧ n ≤ c ∧ ∀ x y, x ≤ y → y ≤ n →
    VRel J F w (.row id s (o + x) (y - x)) (.slice (if c = x then p else p.map (·.add (x * s))) (y - x) (c - x)) := by
  cases hv with
  | row _ _ _ g own s cap h hc =>
    refine ⟨_, _, rfl, by omega, ?_⟩
    intro x y h1 h2
    by_cases he : cap - o = x
    · rw [if_pos he]
      obtain rfl : y = x := by omega
      rw [Nat.sub_self]
      by_cases ho : o + y = 0
      · have h0 : o = 0 := by omega
        have h1 : y = 0 := by omega
        subst h0; subst h1
        exact .row _ _ _ _ _ _ _ h (by omega)
      · exact .rowEnd _ _ _ _ _ _ h ho _ _
    · rw [if_neg he, Option.map_some, Addr.add_mid, show o * s + x * s = (o + x) * s by rw [Nat.add_mul], show cap - o - x = cap - (o + x) by omega]
      exact .row _ _ _ _ _ _ _ h (by omega)
  | rowNil _ own s cap p h =>
    refine ⟨_, _, rfl, Nat.le_refl _, ?_⟩
    intro x y h1 h2
    obtain rfl : y = 0 := by omega
    obtain rfl : x = 0 := by omega
    simpa using VRel.rowNil _ _ _ _ _ h
  | rowEnd _ o g own s cap h ho p c =>
    refine ⟨_, _, rfl, Nat.zero_le _, ?_⟩
    intro x y h1 h2
    obtain rfl : y = 0 := by omega
    obtain rfl : x = 0 := by omega
    exact .rowEnd _ _ _ _ _ _ h (by omega) _ _
  | rowDead _ _ _ _ p c h hle hp =>
    refine ⟨_, _, rfl, hle, ?_⟩
    intro x y h1 h2
    refine .rowDead _ _ _ _ _ _ h (by omega) ?_
    intro hn
    have := hp (by omega)
    split
    · exact this
    · cases p <;> simp_all

end
end Go.AI
