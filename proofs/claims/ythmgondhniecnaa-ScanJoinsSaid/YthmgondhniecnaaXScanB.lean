/- scan: what bytes begin with. -/
import Derived.Test.YthmgondhniecnaaXScanA
namespace Go.AI
/-- The frames in a row that bytes begin with. -/
def scanN : Nat → List Nat → Int → Int → List FrmR
  | 0, _, _, _ => []
  | n + 1, bs, lsn, ep => if 72 ≤ bs.length ∧ (decF (bs.take 72)).2.1 = 0 ∧ tak (decF (bs.take 72)).1 lsn ep = true then (decF (bs.take 72)).1 :: scanN n (bs.drop 72) ((decF (bs.take 72)).1.2.1 + 1) (decF (bs.take 72)).1.1 else []
theorem scanN_short : ∀ (n : Nat) {bs : List Nat} {lsn ep : Int}, bs.length < 72 → scanN n bs lsn ep = []
  | 0, _, _, _, _ => rfl
  | n + 1, bs, lsn, ep, h => by
    unfold scanN
    rw [if_neg (by omega)]
theorem scanN_fuel : ∀ (n m : Nat) (bs : List Nat) (lsn ep : Int), bs.length < 72 * (n + 1) → bs.length < 72 * (m + 1) → scanN n bs lsn ep = scanN m bs lsn ep
  | 0, m, bs, lsn, ep, h, _ => by rw [scanN_short m (by omega)]; rfl
  | n + 1, 0, bs, lsn, ep, _, h => by rw [scanN_short (n + 1) (by omega)]; rfl
  | n + 1, m + 1, bs, lsn, ep, h, h' => by
    unfold scanN
    by_cases hc : 72 ≤ bs.length
    · rw [scanN_fuel n m (bs.drop 72) _ _ (by simp; omega) (by simp; omega)]
    · rw [if_neg (by omega), if_neg (by omega)]
def scanL (bs : List Nat) (lsn ep : Int) : List FrmR := scanN bs.length bs lsn ep
theorem scanL_short {bs : List Nat} {lsn ep : Int} (h : bs.length < 72) : scanL bs lsn ep = [] := scanN_short _ h
theorem scanL_go {bs : List Nat} {lsn ep : Int} (h1 : 72 ≤ bs.length) (h2 : (decF (bs.take 72)).2.1 = 0) (h3 : tak (decF (bs.take 72)).1 lsn ep = true) : scanL bs lsn ep = (decF (bs.take 72)).1 :: scanL (bs.drop 72) ((decF (bs.take 72)).1.2.1 + 1) (decF (bs.take 72)).1.1 := by
  unfold scanL
  rw [scanN_fuel bs.length (bs.length / 72 + 1) bs lsn ep (by omega) (by omega)]
  conv => lhs; unfold scanN
  rw [if_pos ⟨h1, h2, h3⟩, scanN_fuel (bs.drop 72).length (bs.length / 72) (bs.drop 72) _ _ (by simp; omega) (by simp; omega)]
theorem scanL_stop {bs : List Nat} {lsn ep : Int} (h : ¬ ((decF (bs.take 72)).2.1 = 0 ∧ tak (decF (bs.take 72)).1 lsn ep = true)) : scanL bs lsn ep = [] := by
  unfold scanL
  cases bs.length with
  | zero => rfl
  | succ n =>
    unfold scanN
    rw [if_neg fun hc => h hc.2]
theorem dec_err2 (bs : List Nat) : (decF bs).2.1 = 0 → frmB (decF bs).1 = true := by
  intro h
  unfold decF at h ⊢
  split
  · rename_i h1; rw [if_pos h1] at h; cases h
  · rename_i h1
    rw [if_neg h1] at h
    split
    · rename_i h2; rw [if_pos h2] at h; cases h
    · rename_i h2
      rw [if_neg h2] at h
      split
      · rename_i h3; rw [if_pos h3] at h; cases h
      · rename_i h3
        rw [if_neg h3] at h
        split
        · rename_i h4; exact h4
        · rename_i h4; rw [if_neg h4] at h; cases h
/-- What the bytes from a place on are, when 72 are taken. -/
theorem sub72 (bs : List Nat) (i : Nat) (h : i + 72 ≤ bs.length) : subI (ints bs) (i : Int) (((i + 72 : Nat)) : Int) = some (ints ((bs.drop i).take 72)) := by
  rw [subI_nat _ (by omega) (by rw [ints_length]; exact h), ints_take, ints_drop, List.drop_take]
  congr 4
  omega
theorem scan_loop (bs : List Nat) (hb : byt bs) (hl : bs.length < 1000000) : ∀ (k : Nat) (out : List FrmR) (i : Nat) (lsn ep : Int), bs.length - i ≤ k → i ≤ bs.length → out.length ≤ i →
    ∃ s', loopO (fun (v1 : ((List FrmR) × (Int × (Int × (Int × Unit))))) =>
   bif (decide ((IntKind.wrap .i64 (((ints bs).length : Int) - v1.2.1)) ≥ 72)) then ((subI (ints bs) v1.2.1 (IntKind.wrap .i64 (v1.2.1 + 72)))).bind (fun (v2 : (List Int)) =>
     ((g_frame_Decode (v2, ()))).bind (fun (v3 : (FrmR × (Int × Unit))) =>
      bif (v3.2.1 != 0) then (some v1).map .inr
      else ((g_frame_Right (v3.1, ()))).bind (fun (v4 : Bool) =>
       bif (((!v4) || (v3.1.2.1 != v1.2.2.1)) || (decide (v3.1.1 < v1.2.2.2.1))) then (some v1).map .inr
       else ((appX v1.1 (v3.1 :: []) 72)).bind (fun (v5 : (List FrmR)) =>
        some (.inl (v5, ((IntKind.wrap .i64 (v1.2.1 + 72)), ((IntKind.wrap .i64 (v3.1.2.1 + 1)), (v3.1.1, ())))))))))
   else (some v1).map .inr) (out, ((i : Int), (lsn, (ep, ())))) = some (out ++ scanL (bs.drop i) lsn ep, (((i + 72 * (scanL (bs.drop i) lsn ep).length : Nat) : Int), s'))
  | 0, out, i, lsn, ep, hk, hi, ho => by
    have : (bs.drop i).length < 72 := by simp; omega
    rw [scanL_short this]
    refine ⟨(lsn, (ep, ())), loopO_out ?_⟩
    have w : IntKind.wrap .i64 (((ints bs).length : Int) - (i : Int)) = ((bs.length - i : Nat) : Int) := by rw [ints_length, wrap_i64_in (by omega) (by omega)]; omega
    simp only [w]
    rw [show decide (((bs.length - i : Nat) : Int) ≥ 72) = false by simp; omega, cond_false, List.append_nil]
    rfl
  | k + 1, out, i, lsn, ep, hk, hi, ho => by
    have w : IntKind.wrap .i64 (((ints bs).length : Int) - (i : Int)) = ((bs.length - i : Nat) : Int) := by rw [ints_length, wrap_i64_in (by omega) (by omega)]; omega
    by_cases h72 : i + 72 ≤ bs.length
    rotate_left
    · rw [scanL_short (bs := bs.drop i) (by simp; omega)]
      refine ⟨(lsn, (ep, ())), loopO_out ?_⟩
      simp only [w]
      rw [show decide (((bs.length - i : Nat) : Int) ≥ 72) = false by simp; omega, cond_false, List.append_nil]
      rfl
    have w2 : IntKind.wrap .i64 ((i : Int) + 72) = ((i + 72 : Nat) : Int) := by rw [wrap_i64_in (by omega) (by omega)]; rfl
    have hd := sub72 bs i h72
    have hb2 : byt ((bs.drop i).take 72) := byt_take _ (byt_drop _ hb)
    have hge : decide (((bs.length - i : Nat) : Int) ≥ 72) = true := decide_eq_true (by omega)
    by_cases hz : (decF ((bs.drop i).take 72)).2.1 = 0
    rotate_left
    · rw [scanL_stop (fun h => hz h.1)]
      refine ⟨(lsn, (ep, ())), loopO_out ?_⟩
      have hz' : ((decF ((bs.drop i).take 72)).2.1 != 0) = true := by simpa using hz
      simp only [w, hge, cond_true, w2, hd, Option.bind_some, frame_Decode _ hb2, hz', List.append_nil]
      rfl
    have hz' : ((decF ((bs.drop i).take 72)).2.1 != 0) = false := by simpa using hz
    cases ht : tak (decF ((bs.drop i).take 72)).1 lsn ep
    · rw [scanL_stop (fun h => by rw [ht] at h; cases h.2)]
      refine ⟨(lsn, (ep, ())), loopO_out ?_⟩
      simp only [w, hge, cond_true, cond_false, w2, hd, Option.bind_some, frame_Decode _ hb2, hz', frame_Right, tak_neg, ht, Bool.not_false, List.append_nil]
      rfl
    · rw [scanL_go (by simp; omega) hz ht]
      obtain ⟨s', ih⟩ := scan_loop bs hb hl k (out ++ [(decF ((bs.drop i).take 72)).1]) (i + 72) ((decF ((bs.drop i).take 72)).1.2.1 + 1) (decF ((bs.drop i).take 72)).1.1 (by omega) (by omega) (by simp; omega)
      refine ⟨s', ?_⟩
      rw [List.drop_drop]
      rw [loopO_next (t' := (out ++ [(decF ((bs.drop i).take 72)).1], (((i + 72 : Nat) : Int), ((decF ((bs.drop i).take 72)).1.2.1 + 1, ((decF ((bs.drop i).take 72)).1.1, ()))))), ih]
      · rw [List.append_assoc, List.length_cons]
        congr 4
        omega
      · simp only [w, hge, cond_true, cond_false, w2, hd, Option.bind_some, frame_Decode _ hb2, hz', frame_Right, tak_neg, ht, Bool.not_true]
        rw [appX_ok (by simp; omega) (by simp; unfold maxLen; omega)]
        simp only [Option.bind_some, frm_lsn (dec_err2 _ hz)]
theorem scan_Scan {bs : List Nat} (hb : byt bs) (hl : bs.length < 1000000) (lsn ep : Int) : g_scan_Scan (ints bs, (lsn, (ep, ()))) = some (scanL bs lsn ep, (((72 * (scanL bs lsn ep).length : Nat) : Int), ())) := by
  unfold g_scan_Scan
  obtain ⟨s', h⟩ := scan_loop bs hb hl bs.length [] 0 lsn ep (by omega) (by omega) (by simp)
  have h0 : ((0 : Nat) : Int) = 0 := rfl
  rw [h0, List.drop_zero, Nat.zero_add, List.nil_append] at h
  show (loopO _ ([], (0, (lsn, (ep, ()))))).bind _ = _
  rw [h]
  rfl
theorem nxt_append (l m : List FrmR) (lsn ep : Int) : nxt (l ++ m) lsn ep = nxt m (nxt l lsn ep).1 (nxt l lsn ep).2 := by
  induction l generalizing lsn ep with
  | nil => rfl
  | cons f l ih => simp only [List.cons_append, nxt, ih]
theorem ref05_Row (l : List FrmR) (hl : l.length < 1000000) (lsn ep : Int) : g_ref05_Row (l, (lsn, (ep, ()))) = some (rowB l lsn ep) := by
  unfold g_ref05_Row
  -- what is known at a place: what stood ahead is in a row
  have key : ∀ (k i : Nat), l.length - i = k → i ≤ l.length → rowB (l.take i) lsn ep = true → (loopO (fun (v1 : (Int × Unit)) =>
   bif (decide (v1.1 < (l.length : Int))) then ((getI l v1.1)).bind (fun (v2 : FrmR) =>
     ((g_ref04_Right (v2, ()))).bind (fun (v3 : Bool) =>
      bif (!v3) then ((some false).map .inr).map .inr
      else (
       bif (v1.1 == 0) then ((getI l 0)).bind (fun (v4 : FrmR) =>
         (
          bif (v4.2.1 != lsn) then some true
          else ((getI l 0)).bind (fun (v5 : FrmR) =>
           some (decide (v5.1 < ep)))).bind (fun (v6 : Bool) =>
          some v6))
       else some false).bind (fun (v7 : Bool) =>
       (
        bif v7 then some true
        else (
         bif (decide (v1.1 > 0)) then ((getI l v1.1)).bind (fun (v8 : FrmR) =>
           ((getI l (IntKind.wrap .i64 (v1.1 - 1)))).bind (fun (v9 : FrmR) =>
            (
             bif (v8.2.1 != (IntKind.wrap .i64 (v9.2.1 + 1))) then some true
             else ((getI l v1.1)).bind (fun (v10 : FrmR) =>
              ((getI l (IntKind.wrap .i64 (v1.1 - 1)))).bind (fun (v11 : FrmR) =>
               some (decide (v10.1 < v11.1))))).bind (fun (v12 : Bool) =>
             some v12)))
         else some false).bind (fun (v13 : Bool) =>
         some v13)).bind (fun (v14 : Bool) =>
        bif v14 then ((some false).map .inr).map .inr
        else some (.inl ((IntKind.wrap .i64 (v1.1 + 1)), ()))))))
   else (some (.inl ())).map .inr) ((i : Int), ())).bind (eX (fun (_ : Unit) => some true)) = some (rowB l lsn ep) := by
    intro k
    induction k with
    | zero =>
      intro i hk hi hr
      have : i = l.length := by omega
      subst this
      rw [List.take_length] at hr
      rw [hr, loopO_out (e := .inl ())]
      · rfl
      · simp only [ltI', cond_false]
        rfl
    | succ k ih =>
      intro i hk hi hr
      have hil : i < l.length := by omega
      have split : rowB l lsn ep = (tak l[i] (nxt (l.take i) lsn ep).1 (nxt (l.take i) lsn ep).2 && rowB (l.drop (i + 1)) (l[i].2.1 + 1) l[i].1) := by
        conv => lhs; rw [← List.take_append_drop i l, rowB_append, hr, drop_at hil]
        simp only [rowB, Bool.true_and]
      -- what the frame is compared with
      have cond : (bif ((i : Int) == 0) then ((getI l 0)).bind (fun (v4 : FrmR) =>
         (
          bif (v4.2.1 != lsn) then some true
          else ((getI l 0)).bind (fun (v5 : FrmR) =>
           some (decide (v5.1 < ep)))).bind (fun (v6 : Bool) =>
          some v6))
       else some false).bind (fun (v7 : Bool) =>
       (
        bif v7 then some true
        else (
         bif (decide ((i : Int) > 0)) then ((getI l (i : Int))).bind (fun (v8 : FrmR) =>
           ((getI l (IntKind.wrap .i64 ((i : Int) - 1)))).bind (fun (v9 : FrmR) =>
            (
             bif (v8.2.1 != (IntKind.wrap .i64 (v9.2.1 + 1))) then some true
             else ((getI l (i : Int))).bind (fun (v10 : FrmR) =>
              ((getI l (IntKind.wrap .i64 ((i : Int) - 1)))).bind (fun (v11 : FrmR) =>
               some (decide (v10.1 < v11.1))))).bind (fun (v12 : Bool) =>
             some v12)))
         else some false).bind (fun (v13 : Bool) =>
         some v13)).bind (fun (v14 : Bool) => (some v14 : Option Bool))) = some ((l[i].2.1 != (nxt (l.take i) lsn ep).1) || decide (l[i].1 < (nxt (l.take i) lsn ep).2)) := by
        cases i with
        | zero =>
          have g0 : getI l 0 = some l[0] := getI_at (i := 0) hil
          simp only [show (((0 : Nat) : Int) == 0) = true from rfl, cond_true, g0, Option.bind_some, List.take_zero, nxt, show decide (((0 : Nat) : Int) > 0) = false from rfl, cond_false]
          cases (l[0].2.1 != lsn) <;> cases decide (l[0].1 < ep) <;> rfl
        | succ j =>
          have w : IntKind.wrap .i64 (((j + 1 : Nat) : Int) - 1) = ((j : Nat) : Int) := by rw [wrap_i64_in (by omega) (by omega)]; omega
          have e0 : (((j + 1 : Nat) : Int) == 0) = false := by rw [beq_eq_false_iff_ne]; omega
          have e1 : decide (((j + 1 : Nat) : Int) > 0) = true := decide_eq_true (by omega)
          have hn : l.take (j + 1) ≠ [] := by
            intro h
            have := congrArg List.length h
            rw [List.length_take, List.length_nil] at this
            omega
          have hj : j < l.length := by omega
          have hlast : (l.take (j + 1)).getLast hn = l[j] := by
            have : ∀ (m p : List FrmR) (x : FrmR) (h : m ≠ []), m = p ++ [x] → m.getLast h = x := by
              intro m p x h e
              subst e
              simp
            exact this _ _ _ hn (List.take_succ_eq_append_getElem hj)
          have hfr : frmB l[j] = true := rowB_all hr _ (by rw [← hlast]; exact List.getLast_mem hn)
          rw [nxt_last _ _ _ hn, hlast]
          simp only [e0, e1, cond_false, cond_true, Option.bind_some, w, getI_at hil, getI_at hj, frm_lsn hfr]
          cases (l[j + 1].2.1 != l[j].2.1 + 1) <;> cases decide (l[j + 1].1 < l[j].1) <;> rfl
      have cond2 := cond
      cases hf : frmB l[i]
      · rw [loopO_out (e := .inr false)]
        · have : tak l[i] (nxt (l.take i) lsn ep).1 (nxt (l.take i) lsn ep).2 = false := by unfold tak; rw [hf]; rfl
          rw [split, this]
          rfl
        · simp only [ltI hil, cond_true, getI_at hil, Option.bind_some, ref04_Right, hf, Bool.not_false]
          rfl
      · have tk : tak l[i] (nxt (l.take i) lsn ep).1 (nxt (l.take i) lsn ep).2 = !((l[i].2.1 != (nxt (l.take i) lsn ep).1) || decide (l[i].1 < (nxt (l.take i) lsn ep).2)) := by
          unfold tak; rw [hf]; rfl
        -- the condition, as it stands in the loop
        have step : ∀ {γ : Type} (K : Bool → Option γ), ((bif ((i : Int) == 0) then ((getI l 0)).bind (fun (v4 : FrmR) =>
         (
          bif (v4.2.1 != lsn) then some true
          else ((getI l 0)).bind (fun (v5 : FrmR) =>
           some (decide (v5.1 < ep)))).bind (fun (v6 : Bool) =>
          some v6))
       else some false).bind (fun (v7 : Bool) =>
       (
        bif v7 then some true
        else (
         bif (decide ((i : Int) > 0)) then ((getI l (i : Int))).bind (fun (v8 : FrmR) =>
           ((getI l (IntKind.wrap .i64 ((i : Int) - 1)))).bind (fun (v9 : FrmR) =>
            (
             bif (v8.2.1 != (IntKind.wrap .i64 (v9.2.1 + 1))) then some true
             else ((getI l (i : Int))).bind (fun (v10 : FrmR) =>
              ((getI l (IntKind.wrap .i64 ((i : Int) - 1)))).bind (fun (v11 : FrmR) =>
               some (decide (v10.1 < v11.1))))).bind (fun (v12 : Bool) =>
             some v12)))
         else some false).bind (fun (v13 : Bool) =>
         some v13)).bind (fun (v14 : Bool) => K v14))) = K ((l[i].2.1 != (nxt (l.take i) lsn ep).1) || decide (l[i].1 < (nxt (l.take i) lsn ep).2)) := by
          intro γ K
          have := congrArg (fun o : Option Bool => o.bind K) cond
          simp only [Option.bind_assoc, Option.bind_some] at this
          simpa only [Option.bind_assoc, Option.bind_some] using this
        cases hb : ((l[i].2.1 != (nxt (l.take i) lsn ep).1) || decide (l[i].1 < (nxt (l.take i) lsn ep).2))
        · rw [loopO_next (t' := (((i + 1 : Nat) : Int), ()))]
          · refine ih (i + 1) (by omega) (by omega) ?_
            rw [List.take_succ_eq_append_getElem hil, rowB_append, hr]
            simp only [rowB, tk, hb]
            rfl
          · simp only [ltI hil, cond_true, getI_at hil, Option.bind_some, ref04_Right, hf, Bool.not_true, cond_false]
            have e := step (fun v14 => bif v14 then (((some false).map .inr).map .inr : Option ((Int × Unit) ⊕ (Unit ⊕ Bool))) else some (.inl ((IntKind.wrap .i64 ((i : Int) + 1)), ())))
            rw [hb] at e
            simp only [getI_at hil, Option.bind_some] at e
            refine Eq.trans e ?_
            rw [cond_false, wrap_succ (by omega)]
        · rw [loopO_out (e := .inr false)]
          · rw [split, tk, hb]
            rfl
          · simp only [ltI hil, cond_true, getI_at hil, Option.bind_some, ref04_Right, hf, Bool.not_true, cond_false]
            have e := step (fun v14 => bif v14 then (((some false).map .inr).map .inr : Option ((Int × Unit) ⊕ (Unit ⊕ Bool))) else some (.inl ((IntKind.wrap .i64 ((i : Int) + 1)), ())))
            rw [hb] at e
            simp only [getI_at hil, Option.bind_some] at e
            exact e
  have := key l.length 0 (by omega) (by omega) rfl
  exact this
end Go.AI
