/- scan: what is read and what is put; whether any frames are in a row, their bytes, and what any bytes begin with, is what the document says. -/
import Derived.Test.YthmgondhniecnaaXScanB
namespace Go.AI
theorem tak_of {f : FrmR} {lsn ep : Int} : tak f lsn ep = true → f.2.1 = lsn ∧ ep ≤ f.1 := by
  intro h
  unfold tak at h
  simp only [Bool.not_eq_true', Bool.or_eq_false_iff, bne_eq_false_iff_eq, decide_eq_false_iff_not] at h
  exact ⟨h.1.2, by omega⟩
/-- Frames in a row are read from their bytes. -/
theorem scanL_put : ∀ (l : List FrmR) (rest : List Nat) (lsn ep : Int), rowB l lsn ep = true → (∀ f ∈ l, FrmIn f) → scanL (putL l ++ rest) lsn ep = l ++ scanL rest (nxt l lsn ep).1 (nxt l lsn ep).2
  | [], rest, lsn, ep, _, _ => rfl
  | f :: l, rest, lsn, ep, h, hi => by
    simp only [rowB, Bool.and_eq_true] at h
    have ht : ((putL (f :: l) ++ rest).take 72) = codeF f := by
      rw [putL_cons, List.append_assoc]
      exact List.take_left' (codeF_length f)
    have hd : ((putL (f :: l) ++ rest).drop 72) = putL l ++ rest := by
      rw [putL_cons, List.append_assoc]
      exact List.drop_left' (codeF_length f)
    have hdec := dec_code f (tak_frm h.1) (hi f (List.mem_cons_self ..))
    rw [scanL_go (by rw [List.length_append, putL_cons, List.length_append, codeF_length]; omega) (by rw [ht, hdec]) (by rw [ht, hdec]; exact h.1), ht, hd, hdec]
    rw [scanL_put l rest _ _ h.2 fun g hg => hi g (List.mem_cons_of_mem _ hg)]
    rfl
theorem scanN_facts : ∀ (n : Nat) (bs : List Nat) (lsn ep : Int), byt bs → rowB (scanN n bs lsn ep) lsn ep = true ∧ putL (scanN n bs lsn ep) = bs.take (72 * (scanN n bs lsn ep).length) ∧ 72 * (scanN n bs lsn ep).length ≤ bs.length ∧ ∀ f ∈ scanN n bs lsn ep, FrmIn f
  | 0, bs, lsn, ep, _ => ⟨rfl, rfl, Nat.zero_le _, fun f hf => by cases hf⟩
  | n + 1, bs, lsn, ep, hb => by
    unfold scanN
    split
    · rename_i h
      obtain ⟨i1, i2, i3, i4⟩ := scanN_facts n (bs.drop 72) ((decF (bs.take 72)).1.2.1 + 1) (decF (bs.take 72)).1.1 (byt_drop _ hb)
      have hp : decF (bs.take 72) = ((decF (bs.take 72)).1, (0, ())) := by
        have h2 := h.2.1
        generalize decF (bs.take 72) = d at h2 ⊢
        obtain ⟨a, b, ⟨⟩⟩ := d
        simp only at h2
        rw [h2]
      obtain ⟨c1, c2, c3, _⟩ := code_dec (byt_take 72 hb) hp
      rw [List.length_drop] at i3
      refine ⟨?_, ?_, ?_, ?_⟩
      · simp only [rowB, h.2.2, i1, Bool.and_self]
      · rw [putL_cons, c2, i2, List.length_cons, show 72 * ((scanN n (bs.drop 72) ((decF (bs.take 72)).1.2.1 + 1) (decF (bs.take 72)).1.1).length + 1) = 72 + 72 * (scanN n (bs.drop 72) ((decF (bs.take 72)).1.2.1 + 1) (decF (bs.take 72)).1.1).length by omega, List.take_add]
      · rw [List.length_cons]; omega
      · intro f hf
        rcases List.mem_cons.1 hf with rfl | hf
        · exact c3
        · exact i4 f hf
    · exact ⟨rfl, rfl, Nat.zero_le _, fun f hf => by cases hf⟩
theorem scanL_row {bs : List Nat} (hb : byt bs) (lsn ep : Int) : rowB (scanL bs lsn ep) lsn ep = true := (scanN_facts _ bs lsn ep hb).1
theorem scanL_bytes {bs : List Nat} (hb : byt bs) (lsn ep : Int) : putL (scanL bs lsn ep) = bs.take (72 * (scanL bs lsn ep).length) := (scanN_facts _ bs lsn ep hb).2.1
theorem scanL_le {bs : List Nat} (hb : byt bs) (lsn ep : Int) : 72 * (scanL bs lsn ep).length ≤ bs.length := (scanN_facts _ bs lsn ep hb).2.2.1
theorem ref05_loop (bs : List Nat) (hb : byt bs) (hl : bs.length < 70000) (lsn ep : Int) : ∀ (k : Nat) (out : List FrmR) (i : Nat), bs.length - i ≤ k → i ≤ bs.length → out.length ≤ i → rowB out lsn ep = true →
    loopO (fun (v1 : ((List FrmR) × (Int × Unit))) =>
   bif (decide ((IntKind.wrap .i64 (((ints bs).length : Int) - v1.2.1)) ≥ 72)) then ((subI (ints bs) v1.2.1 (IntKind.wrap .i64 (v1.2.1 + 72)))).bind (fun (v2 : (List Int)) =>
     ((g_ref04_Decode (v2, ()))).bind (fun (v3 : (FrmR × (Int × Unit))) =>
      bif (v3.2.1 != 0) then (some (v1.1, ())).map .inr
      else ((appX [] v1.1 72)).bind (fun (v4 : (List FrmR)) =>
       ((appX v4 (v3.1 :: []) 72)).bind (fun (v5 : (List FrmR)) =>
        ((g_ref05_Row (v5, (lsn, (ep, ()))))).bind (fun (v6 : Bool) =>
         bif (!v6) then (some (v1.1, ())).map .inr
         else ((appX v1.1 (v3.1 :: []) 72)).bind (fun (v7 : (List FrmR)) =>
          some (.inl (v7, ((IntKind.wrap .i64 (v1.2.1 + 72)), ())))))))))
   else (some (v1.1, ())).map .inr) (out, ((i : Int), ())) = some (out ++ scanL (bs.drop i) (nxt out lsn ep).1 (nxt out lsn ep).2, ())
  | 0, out, i, hk, hi, ho, _ => by
    have : (bs.drop i).length < 72 := by simp; omega
    rw [scanL_short this]
    refine loopO_out ?_
    have w : IntKind.wrap .i64 (((ints bs).length : Int) - (i : Int)) = ((bs.length - i : Nat) : Int) := by rw [ints_length, wrap_i64_in (by omega) (by omega)]; omega
    simp only [w]
    rw [show decide (((bs.length - i : Nat) : Int) ≥ 72) = false by simp; omega, cond_false, List.append_nil]
    rfl
  | k + 1, out, i, hk, hi, ho, hr => by
    have w : IntKind.wrap .i64 (((ints bs).length : Int) - (i : Int)) = ((bs.length - i : Nat) : Int) := by rw [ints_length, wrap_i64_in (by omega) (by omega)]; omega
    by_cases h72 : i + 72 ≤ bs.length
    rotate_left
    · rw [scanL_short (bs := bs.drop i) (by simp; omega)]
      refine loopO_out ?_
      simp only [w]
      rw [show decide (((bs.length - i : Nat) : Int) ≥ 72) = false by simp; omega, cond_false, List.append_nil]
      rfl
    have w2 : IntKind.wrap .i64 ((i : Int) + 72) = ((i + 72 : Nat) : Int) := by rw [wrap_i64_in (by omega) (by omega)]; rfl
    have hd := sub72 bs i h72
    have hb2 : byt ((bs.drop i).take 72) := byt_take _ (byt_drop _ hb)
    have hge : decide (((bs.length - i : Nat) : Int) ≥ 72) = true := decide_eq_true (by omega)
    by_cases hz : (decF ((bs.drop i).take 72)).2.1 = 0
    rotate_left
    · rw [scanL_stop (fun h => hz h.1)]
      refine loopO_out ?_
      have hz' : ((decF ((bs.drop i).take 72)).2.1 != 0) = true := by simpa using hz
      simp only [w, hge, cond_true, w2, hd, Option.bind_some, ref_Decode _ hb2, hz', List.append_nil]
      rfl
    have hz' : ((decF ((bs.drop i).take 72)).2.1 != 0) = false := by simpa using hz
    have a1 : appX ([] : List FrmR) out 72 = some out := by
      rw [appX_ok (by simp; omega) (by simp; unfold maxLen; omega), List.nil_append]
    have a2 : ∀ f : FrmR, appX out (f :: []) 72 = some (out ++ [f]) := fun f => appX_ok (by simp; omega) (by simp; unfold maxLen; omega)
    have rw1 : ∀ f : FrmR, g_ref05_Row (out ++ [f], (lsn, (ep, ()))) = some (tak f (nxt out lsn ep).1 (nxt out lsn ep).2) := by
      intro f
      rw [ref05_Row _ (by simp; omega), rowB_append, hr]
      simp [rowB]
    cases ht : tak (decF ((bs.drop i).take 72)).1 (nxt out lsn ep).1 (nxt out lsn ep).2
    · rw [scanL_stop (fun h => by rw [ht] at h; cases h.2)]
      refine loopO_out ?_
      simp only [w, hge, cond_true, cond_false, w2, hd, Option.bind_some, ref_Decode _ hb2, hz', a1, a2, rw1, ht, Bool.not_false, List.append_nil]
      rfl
    · rw [scanL_go (by simp; omega) hz ht]
      have ih := ref05_loop bs hb hl lsn ep k (out ++ [(decF ((bs.drop i).take 72)).1]) (i + 72) (by omega) (by omega) (by simp; omega) (by rw [rowB_append, hr]; simp only [rowB, ht, Bool.and_self])
      rw [nxt_append] at ih
      rw [List.drop_drop]
      rw [loopO_next (t' := (out ++ [(decF ((bs.drop i).take 72)).1], (((i + 72 : Nat) : Int), ()))), ih]
      · rw [List.append_assoc]
        rfl
      · simp only [w, hge, cond_true, cond_false, w2, hd, Option.bind_some, ref_Decode _ hb2, hz', a1, a2, rw1, ht, Bool.not_true]
theorem ref05_Scan {bs : List Nat} (hb : byt bs) (hl : bs.length < 70000) (lsn ep : Int) : g_ref05_Scan (ints bs, (lsn, (ep, ()))) = some (scanL bs lsn ep, (((72 * (scanL bs lsn ep).length : Nat) : Int), ())) := by
  unfold g_ref05_Scan
  have h := ref05_loop bs hb hl lsn ep bs.length [] 0 (by omega) (by omega) (by simp) rfl
  have h0 : ((0 : Nat) : Int) = 0 := rfl
  rw [h0, List.drop_zero, List.nil_append] at h
  have hle := scanL_le hb lsn ep
  show (loopO _ ([], (0, ()))).bind _ = _
  rw [h]
  simp only [Option.bind_some, nxt]
  rw [wrap_i64_in (by omega) (by omega)]
  congr 3
theorem scan_awake : g_law05_awake () = some true := by
  have f1 : frmB (1, (3, (1, ((0, (0, (0, (0, (0, (0, ())))))), ())))) = true := by kernel_rfl
  have f2 : frmB (2, (4, (6, ((0, (0, (0, (0, (0, (0, ())))))), ())))) = true := by kernel_rfl
  generalize hA : ((1, (3, (1, ((0, (0, (0, (0, (0, (0, ())))))), ())))) : FrmR) = A at f1
  generalize hB : ((2, (4, (6, ((0, (0, (0, (0, (0, (0, ())))))), ())))) : FrmR) = B at f2
  have iA : FrmIn A := by subst hA; simp [FrmIn]
  have iB : FrmIn B := by subst hB; simp [FrmIn]
  have rAB : rowB [A, B] 3 1 = true := by subst hA hB; kernel_rfl
  have rAB' : rowB [A, B] 3 2 = false := by subst hA hB; kernel_rfl
  have hall : ∀ f ∈ [A, B], FrmIn f := by
    intro f hf
    simp only [List.mem_cons, List.not_mem_nil, or_false] at hf
    rcases hf with rfl | rfl
    · exact iA
    · exact iB
  have hput : g_scan_Put ([A, B], ()) = some (ints (putL [A, B]), (0, ())) := by
    rw [scan_Put _ (by simp), if_pos (by simp [f1, f2])]
  have hlen : (putL [A, B]).length = 144 := by rw [putL_length]; rfl
  have hb := putL_byt [A, B]
  have hb2 : byt (putL [A, B] ++ (putL [A, B]).take 70) := fun x hx => (List.mem_append.1 hx).elim (hb x) (byt_take _ hb x)
  have s1 : scanL (putL [A, B] ++ (putL [A, B]).take 70) 3 1 = [A, B] := by
    rw [scanL_put _ _ _ _ rAB hall, scanL_short (by simp; omega), List.append_nil]
  have s2 : scanL (putL [A, B]) 3 2 = [] := by
    have ht : (putL [A, B]).take 72 = codeF A := List.take_left' (codeF_length A)
    refine scanL_stop fun h => ?_
    rw [ht, dec_code A f1 iA] at h
    have := h.2
    subst hA
    revert this
    decide
  unfold g_law05_awake
  simp only [hA, hB]
  rw [hput]
  have l1 : (ints (putL [A, B])).length = 144 := by rw [ints_length, hlen]
  simp only [Option.bind_some, l1]
  have e1 : decide (((144 : Nat) : Int) < 70) = false := by decide
  have a1 : appX ([] : List Int) (ints (putL [A, B])) 1 = some (ints (putL [A, B])) := app_nil_ints (by omega)
  have a2 : subI (ints (putL [A, B])) 0 70 = some (ints ((putL [A, B]).take 70)) := sub_take _ 70 (by omega)
  have a3 := app_ints (a := putL [A, B]) (b := (putL [A, B]).take 70) (by simp; omega)
  have same : sameB [A, B] [A, B] = true := (sameB_iff _ _).2 rfl
  simp only [e1, cond_false, a1, a2, a3, Option.bind_some, scan_Scan hb2 (by simp; omega), scan_Scan hb (by omega), s1, s2, ref05_Same [A, B] [A, B] (by simp), same, scan_Row [A, B] (by simp), rAB, rAB']
  rfl
theorem rgFs {l : List FrmR} (h : Rg (.slice 9 shFrame) l) : ∀ f ∈ l, FrmIn f := by
  intro f hf
  refine rgF (h.2 f ?_)
  clear h
  induction l with
  | nil => cases hf
  | cons g l ih =>
    rcases List.mem_cons.1 hf with rfl | hf
    · exact .head _
    · exact .tail _ (ih hf)
theorem pure_ScanRight (a : (List FrmR) × ((List Int) × (Int × (Int × Unit)))) (h : Rg (consS [.slice 9 shFrame, .slice 1 (.int .u8), .int .i64, .int .i64]) a) : g_law05_ScanRight a = some true := by
  obtain ⟨l, xs, lsn, ep, ⟨⟩⟩ := a
  obtain ⟨_, hx, _⟩ := h
  obtain ⟨bs, rfl, hb⟩ := ints_of (xs := xs) fun x hxs => hx.2 x hxs
  have hb : byt bs := hb
  unfold g_law05_ScanRight
  rw [scan_awake]
  simp only [Option.bind_some, Bool.not_true, cond_false]
  by_cases h1 : l.length > 20
  · have : decide ((l.length : Int) > 20) = true := decide_eq_true (by omega)
    simp only [this, Bool.true_or, cond_true]
  have e1 : decide ((l.length : Int) > 20) = false := decide_eq_false (by omega)
  by_cases h2 : bs.length > 1500
  · have : decide (((ints bs).length : Int) > 1500) = true := decide_eq_true (by rw [ints_length]; omega)
    simp only [this, Bool.or_true, cond_true]
  have e2 : decide (((ints bs).length : Int) > 1500) = false := decide_eq_false (by rw [ints_length]; omega)
  simp only [e1, e2, Bool.or_self, cond_false]
  rw [loop_over0 l (fun i (b : Bool) => (b, ((i : Int), ()))) (fun l b => (b && l.all frmB, ())) (fun _ _ => True) (b := true) ?_ ?_ trivial (by rfl)]
  rotate_left
  · intro b _
    simp only [ltI', cond_false, List.all_nil, Bool.and_true]
    rfl
  · intro i b hi _
    left
    refine ⟨b && frmB l[i], ?_, trivial, ?_⟩
    · simp only [ltI hi, cond_true, getI_at hi, Option.bind_some, frame_Right, wrap_succ (n := i) (by omega)]
      cases b <;> rfl
    · rw [drop_at hi, List.all_cons, Bool.and_assoc]
  have hall : (∀ f ∈ l, frmB f = true) ↔ l.all frmB = true := by rw [List.all_eq_true]
  have same : sameB (scanL bs lsn ep) (scanL bs lsn ep) = true := (sameB_iff _ _).2 rfl
  have hle := scanL_le hb lsn ep
  simp only [Option.bind_some, Bool.true_and, scan_Put l (by omega), scan_Scan hb (by omega), ref05_Scan hb (by omega), scan_Row l (by omega), ref05_Row l (by omega), ref05_Same _ _ (show (scanL bs lsn ep).length < 1000000 by omega), same, beq_self_eq_true, cond_true]
  cases hq : l.all frmB
  · have : ¬ ∀ f ∈ l, frmB f = true := fun h => by rw [hall.1 h] at hq; cases hq
    simp only [if_neg this, cond_false, Option.bind_some]
    rfl
  · simp only [if_pos (hall.2 hq), cond_true, Option.bind_some, ref05_Put l (by omega)]
    simp
end Go.AI
