/- scan: frames in a row are read from their bytes as they were; two rows are one. -/
import Derived.Test.YthmgondhniecnaaXScanC
namespace Go.AI
theorem putL_take (l : List FrmR) (k : Nat) (hk : k ≤ 72 * l.length) : ∃ rest : List Nat, rest.length < 72 ∧ (putL l).take k = putL (l.take (k / 72)) ++ rest := by
  have hj : k / 72 ≤ l.length := by omega
  have hl : (putL (l.take (k / 72))).length = 72 * (k / 72) := by
    rw [putL_length, List.length_take]
    congr 1
    omega
  refine ⟨(putL (l.drop (k / 72))).take (k - 72 * (k / 72)), by rw [List.length_take]; omega, ?_⟩
  conv => lhs; rw [← List.take_append_drop (k / 72) l, putL_append]
  rw [List.take_append, hl, List.take_of_length_le (by omega)]
theorem sub_pre {α : Type} (l : List α) (k : Nat) (h : k ≤ l.length) : subI l 0 (k : Int) = some (l.take k) := by
  have := subI_nat l (a := 0) (b := k) (by omega) h
  rw [show ((0 : Nat) : Int) = 0 from rfl, List.drop_zero] at this
  exact this
theorem pure_ScanBack (a : (List FrmR) × (Int × ((List Int) × (Int × (Int × Unit))))) (h : Rg (consS [.slice 9 shFrame, .int .u16, .slice 1 (.int .u8), .int .i64, .int .i64]) a) : g_law05_ScanBack a = some true := by
  obtain ⟨l, cut, xs, lsn, ep, ⟨⟩⟩ := a
  obtain ⟨hl, hc, hx, _⟩ := h
  obtain ⟨bs, rfl, hb⟩ := ints_of (xs := xs) fun x hxs => hx.2 x hxs
  have hb : byt bs := hb
  have hc : 0 ≤ cut ∧ cut < 65536 := wf_u16 hc
  have hF := rgFs hl
  obtain ⟨q, rfl⟩ : ∃ q : Nat, cut = (q : Int) := ⟨cut.toNat, (Int.toNat_of_nonneg hc.1).symm⟩
  unfold g_law05_ScanBack
  rw [scan_awake]
  simp only [Option.bind_some, Bool.not_true, cond_false]
  by_cases h1 : l.length > 20
  · have : decide ((l.length : Int) > 20) = true := decide_eq_true (by omega)
    simp only [this, Bool.true_or, cond_true]
  have e1 : decide ((l.length : Int) > 20) = false := decide_eq_false (by omega)
  by_cases h2 : bs.length > 1500
  · have : decide (((ints bs).length : Int) > 1500) = true := decide_eq_true (by rw [ints_length]; omega)
    simp only [this, Bool.or_true, cond_true]
  have e2 : decide (((ints bs).length : Int) > 1500) = false := decide_eq_false (by rw [ints_length]; omega)
  have hle := scanL_le hb lsn ep
  have hrow := scanL_row hb lsn ep
  have hby := scanL_bytes hb lsn ep
  generalize hM : scanL bs lsn ep = m at hle hrow hby
  have w1 : IntKind.wrap .i64 ((m.length : Int) * 72) = ((72 * m.length : Nat) : Int) := by rw [wrap_i64_in (by omega) (by omega)]; omega
  have c1 : decide (((72 * m.length : Nat) : Int) > ((ints bs).length : Int)) = false := decide_eq_false (by rw [ints_length]; omega)
  have p1 : g_scan_Put (m, ()) = some (ints (putL m), (0, ())) := by rw [scan_Put m (by omega), if_pos (rowB_all hrow)]
  have s1 : subI (ints bs) 0 ((72 * m.length : Nat) : Int) = some (ints (putL m)) := by rw [hby]; exact sub_take bs _ hle
  simp only [e1, e2, Bool.or_self, cond_false, scan_Scan hb (by omega), hM, Option.bind_some, scan_Row m (by omega), hrow, w1, c1, Bool.not_true, bne_self_eq_false, p1, s1, decide_true, scan_Row l (by omega)]
  cases hr : rowB l lsn ep
  · rfl
  have hl20 : l.length ≤ 20 := by omega
  have p2 : g_scan_Put (l, ()) = some (ints (putL l), (0, ())) := by rw [scan_Put l (by omega), if_pos (rowB_all hr)]
  have hlen := putL_length l
  have hbl := putL_byt l
  have sc1 : scanL (putL l) lsn ep = l := by
    have h0 : scanL [] (nxt l lsn ep).1 (nxt l lsn ep).2 = [] := scanL_short (by simp)
    have := scanL_put l [] lsn ep hr hF
    rw [h0, List.append_nil, List.append_nil] at this
    exact this
  have same : sameB l l = true := (sameB_iff _ _).2 rfl
  have hL : ((ints (putL l)).length : Int) = ((72 * l.length : Nat) : Int) := by rw [ints_length, hlen]
  have w2 : IntKind.wrap .i64 ((l.length : Int) * 72) = ((72 * l.length : Nat) : Int) := by rw [wrap_i64_in (by omega) (by omega)]; omega
  have w3 : IntKind.wrap .i64 (((72 * l.length : Nat) : Int) + 1) = ((72 * l.length + 1 : Nat) : Int) := by rw [wrap_i64_in (by omega) (by omega)]; rfl
  have w4 : IntKind.wrap .i64 (q : Int) = (q : Int) := wrap_i64_in (by omega) (by omega)
  have c2 : decide (((72 * l.length + 1 : Nat) : Int) = 0) = false := decide_eq_false (by omega)
  have t1 : Int.tmod (q : Int) ((72 * l.length + 1 : Nat) : Int) = ((q % (72 * l.length + 1) : Nat) : Int) := tmod_nat q _
  have hk : q % (72 * l.length + 1) ≤ 72 * l.length := by
    have := Nat.mod_lt q (show 72 * l.length + 1 > 0 by omega)
    omega
  simp only [Bool.not_true, cond_false, p2, Option.bind_some, scan_Scan hbl (by omega), sc1, bne_self_eq_false, ref05_Same l l (by omega), same, hL, Bool.or_self, w2, w3, w4, c2, t1]
  generalize q % (72 * l.length + 1) = k at hk
  obtain ⟨rest, hr1, hr2⟩ := putL_take l k hk
  have hbk : byt ((putL l).take k) := byt_take _ hbl
  have sc2 : scanL ((putL l).take k) lsn ep = l.take (k / 72) := by
    rw [hr2, scanL_put _ _ _ _ (rowB_take l lsn ep _ hr) (fun f hf => hF f (List.mem_of_mem_take hf)), scanL_short hr1, List.append_nil]
  have s2 : subI (ints (putL l)) 0 (k : Int) = some (ints ((putL l).take k)) := sub_take _ k (by omega)
  have t2 : Int.tdiv (k : Int) 72 = ((k / 72 : Nat) : Int) := tdiv_nat k 72
  have t3 : Int.tmod (k : Int) 72 = ((k % 72 : Nat) : Int) := tmod_nat k 72
  have w5 : IntKind.wrap .i64 ((k / 72 : Nat) : Int) = ((k / 72 : Nat) : Int) := wrap_i64_in (by omega) (by omega)
  have w6 : IntKind.wrap .i64 ((k : Int) - ((k % 72 : Nat) : Int)) = ((k - k % 72 : Nat) : Int) := by rw [wrap_i64_in (by omega) (by omega)]; omega
  have s3 : subI l 0 ((k / 72 : Nat) : Int) = some (l.take (k / 72)) := sub_pre l _ (by omega)
  have same2 : sameB (l.take (k / 72)) (l.take (k / 72)) = true := (sameB_iff _ _).2 rfl
  have hlt : (l.take (k / 72)).length = k / 72 := by rw [List.length_take]; omega
  have e3 : (((72 * (l.take (k / 72)).length : Nat) : Int) == ((k - k % 72 : Nat) : Int)) = true := by
    rw [beq_iff_eq, hlt]
    omega
  simp only [s2, Option.bind_some, scan_Scan hbk (by rw [List.length_take]; omega), sc2, t2, t3, w5, w6, s3, ref05_Same _ _ (show (l.take (k / 72)).length < 1000000 by omega), same2, cond_true, e3]
theorem pure_ScanJoins (a : (List FrmR) × ((List FrmR) × (Int × (Int × Unit)))) (h : Rg (consS [.slice 9 shFrame, .slice 9 shFrame, .int .i64, .int .i64]) a) : g_law05_ScanJoins a = some true := by
  obtain ⟨l, m, lsn, ep, ⟨⟩⟩ := a
  obtain ⟨hl, hm, hlsn, _⟩ := h
  have hlsn : -9223372036854775808 ≤ lsn ∧ lsn < 9223372036854775808 := wf_i64 hlsn
  have hF := rgFs hl
  unfold g_law05_ScanJoins
  rw [scan_awake]
  simp only [Option.bind_some, Bool.not_true, cond_false]
  by_cases h1 : l.length > 20
  · have : decide ((l.length : Int) > 20) = true := decide_eq_true (by omega)
    simp only [this, Bool.true_or, cond_true, Option.bind_some]
  have e1 : decide ((l.length : Int) > 20) = false := decide_eq_false (by omega)
  by_cases h2 : m.length > 20
  · have : decide ((m.length : Int) > 20) = true := decide_eq_true (by omega)
    simp only [this, Bool.or_true, cond_true, Option.bind_some]
  have e2 : decide ((m.length : Int) > 20) = false := decide_eq_false (by omega)
  simp only [e1, e2, Bool.or_self, cond_false, scan_Row l (by omega), Option.bind_some]
  cases hr : rowB l lsn ep
  · rfl
  simp only [Bool.not_true, cond_false]
  -- what the row goes on with
  have hlast : ∃ v5 : Int × (Int × (Int × (Int × (Int × (Int × (Int × (Int × (Int × Unit)))))))), (bif (decide ((l.length : Int) > 0)) then ((getI l (IntKind.wrap .i64 ((l.length : Int) - 1)))).bind (fun (v4 : FrmR) =>
      some (v4.1, (v4.2.1, (v4.2.2.1, v4.2.2.2.1))))
    else some (ep, ((IntKind.wrap .i64 (lsn - 1)), (0, (0, (0, (0, (0, (0, (0, ())))))))))) = some v5 ∧ IntKind.wrap .i64 (v5.2.1 + 1) = (nxt l lsn ep).1 ∧ v5.1 = (nxt l lsn ep).2 := by
    by_cases h0 : l = []
    · subst h0
      refine ⟨_, rfl, ?_, rfl⟩
      simp only [nxt]
      rw [IntKind.wrap_i64, IntKind.wrap_i64]
      omega
    · have hpos : 0 < l.length := List.length_pos_iff.2 h0
      have d : decide ((l.length : Int) > 0) = true := decide_eq_true (by omega)
      have w : IntKind.wrap .i64 ((l.length : Int) - 1) = ((l.length - 1 : Nat) : Int) := by rw [wrap_i64_in (by omega) (by omega)]; omega
      have hg : getI l ((l.length - 1 : Nat) : Int) = some (l.getLast h0) := by rw [getI_at (by omega), List.getLast_eq_getElem]
      refine ⟨((l.getLast h0).1, ((l.getLast h0).2.1, ((l.getLast h0).2.2.1, (l.getLast h0).2.2.2.1))), ?_, ?_, ?_⟩
      · rw [d, cond_true, w, hg]; rfl
      · rw [nxt_last l _ _ h0, frm_lsn (rowB_all hr _ (List.getLast_mem h0))]
      · rw [nxt_last l _ _ h0]
  obtain ⟨v5, q1, q2, q3⟩ := hlast
  have a1 : appX ([] : List FrmR) l 72 = some l := by
    rw [appX_ok (by simp; omega) (by simp; unfold maxLen; omega), List.nil_append]
  have a2 : appX l m 72 = some (l ++ m) := appX_ok (by omega) (by unfold maxLen; omega)
  rw [q1]
  simp only [Option.bind_some, a1, a2, q2, q3, scan_Row (l ++ m) (by simp; omega), scan_Row m (by omega), rowB_append, hr, Bool.true_and, bne_self_eq_false]
  by_cases h3 : lsn < 1
  · have : decide (lsn < 1) = true := decide_eq_true h3
    simp only [this, cond_true, Option.bind_some]
  have e3 : decide (lsn < 1) = false := decide_eq_false h3
  have p1 : g_scan_Put (l, ()) = some (ints (putL l), (0, ())) := by rw [scan_Put l (by omega), if_pos (rowB_all hr)]
  simp only [e3, cond_false, Option.bind_some, p1, scan_Put m (by omega)]
  by_cases h4 : ∀ f ∈ m, frmB f = true
  rotate_left
  · simp only [if_neg h4]
    rfl
  have hbl := putL_byt l
  have hbm := putL_byt m
  have hbb : byt (putL l ++ putL m) := fun x hx => (List.mem_append.1 hx).elim (hbl x) (hbm x)
  have lm := putL_length m
  have ll := putL_length l
  have b1 : appX ([] : List Int) (ints (putL l)) 1 = some (ints (putL l)) := app_nil_ints (by omega)
  have b2 := app_ints (a := putL l) (b := putL m) (by omega)
  have hle := scanL_le hbm (nxt l lsn ep).1 (nxt l lsn ep).2
  have b3 : appX l (scanL (putL m) (nxt l lsn ep).1 (nxt l lsn ep).2) 72 = some (l ++ scanL (putL m) (nxt l lsn ep).1 (nxt l lsn ep).2) := appX_ok (by omega) (by unfold maxLen; omega)
  have sc := scanL_put l (putL m) lsn ep hr hF
  have same : sameB (l ++ scanL (putL m) (nxt l lsn ep).1 (nxt l lsn ep).2) (l ++ scanL (putL m) (nxt l lsn ep).1 (nxt l lsn ep).2) = true := (sameB_iff _ _).2 rfl
  simp only [if_pos h4, bne_self_eq_false, Bool.or_self, cond_false, b1, b2, b3, Option.bind_some, scan_Scan hbb (by simp; omega), scan_Scan hbm (by omega), sc, ref05_Same _ _ (show (l ++ scanL (putL m) (nxt l lsn ep).1 (nxt l lsn ep).2).length < 1000000 by simp; omega), same]
end Go.AI
