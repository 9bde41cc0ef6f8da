/- scan: frames in a row; their bytes; what bytes begin with; on both sides. -/
import Derived.Test.YthmgondhniecnaaXFrameI
namespace Go.AI
/-- A loop over a list, with a counter. -/
theorem loop_over {α β ε τ : Type} {step : τ → Option (τ ⊕ ε)} {l : List α} (st : Nat → β → τ) (F : List α → β → ε) (I : Nat → β → Prop) (hnil : ∀ b, I l.length b → step (st l.length b) = some (.inr (F [] b)))
    (hcons : ∀ i b (_ : i < l.length), I i b → (∃ b', step (st i b) = some (.inl (st (i + 1) b')) ∧ I (i + 1) b' ∧ F (l.drop i) b = F (l.drop (i + 1)) b') ∨ step (st i b) = some (.inr (F (l.drop i) b))) :
    ∀ {i : Nat} {b : β}, i ≤ l.length → I i b → loopO step (st i b) = some (F (l.drop i) b) := by
  intro i b hi hI
  generalize hk : l.length - i = k
  induction k generalizing i b with
  | zero =>
    have : i = l.length := by omega
    subst this
    rw [List.drop_length]
    exact loopO_out (hnil b hI)
  | succ k ih =>
    rcases hcons i b (by omega) hI with ⟨b', h1, h2, h3⟩ | h
    · rw [loopO_next h1, h3]
      exact ih (by omega) h2 (by omega)
    · exact loopO_out h
theorem loop_over0 {α β ε τ : Type} {step : τ → Option (τ ⊕ ε)} (l : List α) (st : Nat → β → τ) (F : List α → β → ε) (I : Nat → β → Prop) {t0 : τ} {b : β} (hnil : ∀ b, I l.length b → step (st l.length b) = some (.inr (F [] b)))
    (hcons : ∀ i b (_ : i < l.length), I i b → (∃ b', step (st i b) = some (.inl (st (i + 1) b')) ∧ I (i + 1) b' ∧ F (l.drop i) b = F (l.drop (i + 1)) b') ∨ step (st i b) = some (.inr (F (l.drop i) b))) (hI : I 0 b) (ht : t0 = st 0 b) : loopO step t0 = some (F l b) := by
  subst ht
  have := loop_over st F I hnil hcons (i := 0) (b := b) (by omega) hI
  rwa [List.drop_zero] at this
theorem getI_at {α : Type} {l : List α} {i : Nat} (h : i < l.length) : getI l (i : Int) = some l[i] := by
  rw [getI_nat, List.getElem?_eq_getElem h]
theorem drop_at {α : Type} {l : List α} {i : Nat} (h : i < l.length) : l.drop i = l[i] :: l.drop (i + 1) := List.drop_eq_getElem_cons h
theorem ltI {i n : Nat} (h : i < n) : decide ((i : Int) < (n : Int)) = true := decide_eq_true (by omega)
theorem ltI' (n : Nat) : decide ((n : Int) < (n : Int)) = false := decide_eq_false (by omega)

/-- Does a row take a frame? -/
def tak (f : FrmR) (lsn ep : Int) : Bool := !(((!frmB f) || (f.2.1 != lsn)) || decide (f.1 < ep))
theorem tak_neg (f : FrmR) (lsn ep : Int) : (((!frmB f) || (f.2.1 != lsn)) || decide (f.1 < ep)) = !tak f lsn ep := by
  unfold tak
  rw [Bool.not_not]
def rowB : List FrmR → Int → Int → Bool
  | [], _, _ => true
  | f :: l, lsn, ep => tak f lsn ep && rowB l (f.2.1 + 1) f.1
theorem tak_frm {f : FrmR} {lsn ep : Int} (h : tak f lsn ep = true) : frmB f = true := by
  unfold tak at h
  cases hf : frmB f
  · rw [hf] at h; simp at h
  · rfl
theorem frm_lsn {f : FrmR} (h : frmB f = true) : IntKind.wrap .i64 (f.2.1 + 1) = f.2.1 + 1 := by
  unfold frmB at h
  simp only [Bool.and_eq_true, decide_eq_true_eq] at h
  exact wrap_i64_in (by omega) (by omega)

def rowF : List FrmR → (Int × (Int × Unit)) → (Int × (Int × Unit)) ⊕ Bool
  | [], b => .inl b
  | f :: l, b => if tak f b.1 b.2.1 = true then rowF l (f.2.1 + 1, (f.1, ())) else .inr false
theorem rowF_end : ∀ (l : List FrmR) (b : Int × (Int × Unit)), eX (fun _ => some true) (rowF l b) = some (rowB l b.1 b.2.1)
  | [], b => rfl
  | f :: l, b => by
    unfold rowF rowB
    cases h : tak f b.1 b.2.1
    · rfl
    · rw [if_pos rfl, rowF_end l, Bool.true_and]
theorem scan_Row (l : List FrmR) (hl : l.length < 1000000) (lsn ep : Int) : g_scan_Row (l, (lsn, (ep, ()))) = some (rowB l lsn ep) := by
  unfold g_scan_Row
  rw [loop_over0 l (fun i (b : Int × (Int × Unit)) => ((i : Int), b)) rowF (fun _ _ => True) (b := (lsn, (ep, ()))) ?_ ?_ trivial (by rfl)]
  · rw [Option.bind_some, rowF_end]
  · intro b _
    simp only [ltI', cond_false]
    rfl
  · intro i b hi _
    simp only [ltI hi, cond_true, getI_at hi, Option.bind_some, frame_Right]
    rw [drop_at hi]
    generalize l[i] = f
    cases ht : tak f b.1 b.2.1
    · right
      have : (((!frmB f) || (f.2.1 != b.1)) || decide (f.1 < b.2.1)) = true := by rw [tak_neg, ht]; rfl
      rw [this]
      simp only [rowF, ht, cond_true]
      rfl
    · left
      have : (((!frmB f) || (f.2.1 != b.1)) || decide (f.1 < b.2.1)) = false := by rw [tak_neg, ht]; rfl
      rw [this]
      refine ⟨(f.2.1 + 1, (f.1, ())), ?_, trivial, ?_⟩
      · simp only [cond_false, frm_lsn (tak_frm ht), wrap_succ (n := i) (by omega)]
      · conv => lhs; unfold rowF
        rw [if_pos ht]
/-- What a row goes on with. -/
def nxt : List FrmR → Int → Int → Int × Int
  | [], lsn, ep => (lsn, ep)
  | f :: l, _, _ => nxt l (f.2.1 + 1) f.1
theorem rowB_append : ∀ (l m : List FrmR) (lsn ep : Int), rowB (l ++ m) lsn ep = (rowB l lsn ep && rowB m (nxt l lsn ep).1 (nxt l lsn ep).2)
  | [], m, lsn, ep => by simp [rowB, nxt]
  | f :: l, m, lsn, ep => by
    simp only [List.cons_append, rowB, nxt, rowB_append l m, Bool.and_assoc]
theorem rowB_take (l : List FrmR) (lsn ep : Int) (k : Nat) (h : rowB l lsn ep = true) : rowB (l.take k) lsn ep = true := by
  rw [← List.take_append_drop k l, rowB_append, Bool.and_eq_true] at h
  exact h.1
theorem nxt_last : ∀ (l : List FrmR) (lsn ep : Int) (h : l ≠ []), nxt l lsn ep = ((l.getLast h).2.1 + 1, (l.getLast h).1)
  | [f], lsn, ep, _ => rfl
  | f :: g :: l, lsn, ep, h => by
    have e : (f :: g :: l).getLast h = (g :: l).getLast (List.cons_ne_nil _ _) := List.getLast_cons (List.cons_ne_nil _ _)
    rw [e]
    exact nxt_last (g :: l) (f.2.1 + 1) f.1 (List.cons_ne_nil _ _)
theorem rowB_all : ∀ {l : List FrmR} {lsn ep : Int}, rowB l lsn ep = true → ∀ f ∈ l, frmB f = true
  | [], _, _, _, f, hf => by cases hf
  | g :: l, lsn, ep, h, f, hf => by
    simp only [rowB, Bool.and_eq_true] at h
    rcases List.mem_cons.1 hf with rfl | hf
    · exact tak_frm h.1
    · exact rowB_all h.2 f hf
def putL (l : List FrmR) : List Nat := l.flatMap codeF
theorem putL_cons (f : FrmR) (l : List FrmR) : putL (f :: l) = codeF f ++ putL l := rfl
theorem putL_append (l m : List FrmR) : putL (l ++ m) = putL l ++ putL m := by simp [putL]
theorem putL_length : ∀ l : List FrmR, (putL l).length = 72 * l.length
  | [] => rfl
  | f :: l => by rw [putL_cons, List.length_append, codeF_length, putL_length l, List.length_cons]; omega
theorem putL_byt (l : List FrmR) : byt (putL l) := by
  intro x hx
  obtain ⟨f, _, h⟩ := List.mem_flatMap.1 hx
  exact codeF_byt f x h
def putF : List FrmR → (List Int) → ((List Int × Unit) ⊕ (List Int × (Int × Unit)))
  | [], b => .inl (b, ())
  | f :: l, b => if frmB f = true then putF l (b ++ ints (codeF f)) else .inr ([], (1, ()))
theorem putF_end : ∀ (l : List FrmR) (b : List Int), eX (fun (v : List Int × Unit) => some (v.1, ((0 : Int), ()))) (putF l b) = some (if (∀ f ∈ l, frmB f = true) then (b ++ ints (putL l), (0, ())) else ([], (1, ())))
  | [], b => by simp [putF, eX, putL, ints]
  | f :: l, b => by
    unfold putF
    cases h : frmB f
    · rw [if_neg (by simp), if_neg (by simp [h])]
      rfl
    · rw [if_pos rfl, putF_end l, putL_cons, ints_append, List.append_assoc]
      by_cases hl : ∀ f ∈ l, frmB f = true
      · rw [if_pos hl, if_pos (by simpa [h] using hl)]
      · rw [if_neg hl, if_neg (by simpa [h] using hl)]
theorem scan_Put (l : List FrmR) (hl : l.length ≤ 1000) : g_scan_Put (l, ()) = some (if (∀ f ∈ l, frmB f = true) then (ints (putL l), (0, ())) else ([], (1, ()))) := by
  unfold g_scan_Put
  rw [loop_over0 l (fun i (b : List Int) => (b, ((i : Int), ()))) putF (fun i b => b.length ≤ 72 * i) (b := []) ?_ ?_ (by simp) (by rfl)]
  · rw [Option.bind_some, putF_end, List.nil_append]
  · intro b _
    simp only [ltI', cond_false]
    rfl
  · intro i b hi hb
    simp only [ltI hi, cond_true, getI_at hi, Option.bind_some, frame_Enc]
    rw [drop_at hi]
    generalize l[i] = f
    cases hf : frmB f
    · right
      simp [encF, hf, putF]
    · left
      refine ⟨b ++ ints (codeF f), ?_, by rw [List.length_append, ints_length, codeF_length]; omega, ?_⟩
      · simp only [encF, hf, if_true, bne_self_eq_false, cond_false]
        rw [appX_ok (by rw [ints_length, codeF_length]; omega) (by rw [ints_length, codeF_length]; unfold maxLen; omega)]
        simp only [Option.bind_some, wrap_succ (n := i) (by omega)]
      · conv => lhs; unfold putF
        rw [if_pos hf]
theorem ref04_Enc (f : FrmR) : g_ref04_Encode (f, ()) = some (ints (codeF f)) := ref_Encode f (nU_eq _) (nU_eq _) (nU_eq _) (nU_eq _) (nU_eq _) (nU_eq _) (nU_eq _) (nU_eq _) (nU_eq _)
theorem ref05_Put (l : List FrmR) (hl : l.length ≤ 1000) : g_ref05_Put (l, ()) = some (ints (putL l)) := by
  unfold g_ref05_Put
  rw [loop_over0 l (fun i (b : List Int) => (b, ((i : Int), ()))) (fun l b => (b ++ ints (putL l), ())) (fun i b => b.length ≤ 72 * i) (b := []) ?_ ?_ (by simp) (by rfl)]
  · rw [Option.bind_some, List.nil_append]
  · intro b _
    simp only [ltI', cond_false]
    simp [putL, ints]
  · intro i b hi hb
    simp only [ltI hi, cond_true, getI_at hi, Option.bind_some, ref04_Enc]
    rw [drop_at hi]
    generalize l[i] = f
    left
    refine ⟨b ++ ints (codeF f), ?_, by rw [List.length_append, ints_length, codeF_length]; omega, ?_⟩
    · rw [appX_ok (by rw [ints_length, codeF_length]; omega) (by rw [ints_length, codeF_length]; unfold maxLen; omega)]
      simp only [Option.bind_some, wrap_succ (n := i) (by omega)]
    · rw [putL_cons, ints_append, List.append_assoc]
/-- Are two lists the same? -/
noncomputable def sameB (a b : List FrmR) : Bool := @decide (a = b) (Classical.propDecidable _)
theorem sameB_iff (a b : List FrmR) : sameB a b = true ↔ a = b := @decide_eq_true_iff _ (Classical.propDecidable _)
def samF : List FrmR → List FrmR → Unit ⊕ Bool
  | f :: l, g :: m => if eqF f g = true then samF l m else .inr false
  | _, _ => .inl ()
theorem samF_end : ∀ (l m : List FrmR), l.length = m.length → eX (fun _ => some true) (samF l m) = some (sameB l m)
  | [], [], _ => by
    have : sameB [] [] = true := (sameB_iff _ _).2 rfl
    rw [this]; rfl
  | f :: l, g :: m, h => by
    unfold samF
    cases hf : eqF f g
    · have : sameB (f :: l) (g :: m) = false := by
        rw [Bool.eq_false_iff, Ne, sameB_iff]
        intro e
        rw [(eqF_iff f g).2 (List.cons.inj e).1] at hf
        cases hf
      rw [this]; rfl
    · rw [if_pos rfl, samF_end l m (by simpa using h)]
      congr 1
      rw [Bool.eq_iff_iff, sameB_iff, sameB_iff, (eqF_iff f g).1 hf]
      simp
theorem ref05_Same (a b : List FrmR) (hl : a.length < 1000000) : g_ref05_Same (a, (b, ())) = some (sameB a b) := by
  unfold g_ref05_Same
  by_cases h : a.length = b.length
  rotate_left
  · have e : ((a.length : Int) != (b.length : Int)) = true := by simp; omega
    have : sameB a b = false := by
      rw [Bool.eq_false_iff, Ne, sameB_iff]
      intro e; exact h (by rw [e])
    simp only [e, cond_true, this]
  have e : ((a.length : Int) != (b.length : Int)) = false := by simp; omega
  simp only [e, cond_false]
  rw [loop_over0 a (fun i (_ : Unit) => ((i : Int), ())) (fun l _ => samF l (b.drop (a.length - l.length))) (fun _ _ => True) (b := ()) ?_ ?_ trivial (by rfl)]
  · rw [Nat.sub_self, List.drop_zero, Option.bind_some, samF_end a b h]
  · intro b' _
    simp only [ltI', cond_false]
    rw [List.length_nil, Nat.sub_zero]
    rfl
  · intro i b' hi _
    have hib : i < b.length := by omega
    simp only [ltI hi, cond_true, getI_at hi, getI_at hib, Option.bind_some]
    have hd : a.length - (a.drop i).length = i := by simp; omega
    have hd1 : a.length - (a.drop (i + 1)).length = i + 1 := by simp; omega
    rw [hd, hd1, drop_at hi, drop_at hib]
    show (∃ b', (bif !eqF a[i] b[i] then _ else _) = _ ∧ _) ∨ (bif !eqF a[i] b[i] then _ else _) = _
    cases he : eqF a[i] b[i]
    · right
      simp only [Bool.not_false, cond_true, samF, he]
      rfl
    · left
      refine ⟨(), ?_, trivial, ?_⟩
      · simp only [Bool.not_true, cond_false, wrap_succ (n := i) (by omega)]
      · conv => lhs; unfold samF
        rw [if_pos he]
end Go.AI
