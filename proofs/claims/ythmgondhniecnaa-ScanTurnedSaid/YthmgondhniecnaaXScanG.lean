/- scan: frames in a row whose bytes are changed within four that follow one another are read up to the one in which the first changed byte stands: the law. -/
import Derived.Test.YthmgondhniecnaaXScanF
namespace Go.AI
/-- Where the first byte stands that is turned. -/
def fstN : List Nat → Nat → Nat → Nat
  | [], _, n => n
  | y :: ys, p, n => if y = 0 then fstN ys (p + 1) n else p
theorem fstN_ok : ∀ (ys : List Nat) (p n : Nat), (fstN ys p n = n ∧ ∀ c ∈ ys, c = 0) ∨ (p ≤ fstN ys p n ∧ (∀ c ∈ ys.take (fstN ys p n - p), c = 0) ∧ ∃ c cs, ys.drop (fstN ys p n - p) = c :: cs ∧ c ≠ 0)
  | [], p, n => .inl ⟨rfl, by simp⟩
  | y :: ys, p, n => by
    unfold fstN
    by_cases h : y = 0
    · rw [if_pos h]
      rcases fstN_ok ys (p + 1) n with ⟨h1, h2⟩ | ⟨h1, h2, h3⟩
      · exact .inl ⟨h1, by simpa [h] using h2⟩
      · refine .inr ⟨by omega, ?_, ?_⟩
        · rw [show fstN ys (p + 1) n - p = (fstN ys (p + 1) n - (p + 1)) + 1 by omega, List.take_succ_cons]
          intro c hc
          rcases List.mem_cons.1 hc with rfl | hc
          · exact h
          · exact h2 c hc
        · rw [show fstN ys (p + 1) n - p = (fstN ys (p + 1) n - (p + 1)) + 1 by omega, List.drop_succ_cons]
          exact h3
    · rw [if_neg h]
      exact .inr ⟨Nat.le_refl _, by simp, y, ys, by simp, h⟩
/-- The end of the law. -/
theorem turned_scan {l : List FrmR} {lsn ep : Int} (h20 : l.length ≤ 20) (hr : rowB l lsn ep = true) (hF : ∀ f ∈ l, FrmIn f) {p : Nat} {ys : List Nat} (hy : byt ys) (h4 : ys.length ≤ 4) (hp : p + ys.length ≤ 72 * l.length) :
    ((g_scan_Scan (ints (turn (putL l) p ys), (lsn, (ep, ())))).bind fun v21 => ((subI l 0 (IntKind.wrap .i64 (Int.tdiv ((fstN ys p (72 * l.length) : Nat) : Int) 72)))).bind fun v22 => ((g_ref05_Same (v21.1, (v22, ())))).bind fun v23 => some (v23 && (v21.2.1 == (IntKind.wrap .i64 ((v21.1.length : Int) * 72))))) = some true := by
  have hbl := putL_byt l
  have hbt : byt (turn (putL l) p ys) := turn_lt hbl hy
  have hlt : (turn (putL l) p ys).length = 72 * l.length := by rw [turn_length (by rw [putL_length]; exact hp), putL_length]
  have hfl : fstN ys p (72 * l.length) ≤ 72 * l.length := by
    rcases fstN_ok ys p (72 * l.length) with ⟨h1, _⟩ | ⟨h1, _, c, cs, h3, _⟩
    · omega
    · have := congrArg List.length h3
      rw [List.length_drop, List.length_cons] at this
      omega
  have hs : scanL (turn (putL l) p ys) lsn ep = l.take (fstN ys p (72 * l.length) / 72) := by
    rcases fstN_ok ys p (72 * l.length) with ⟨h1, h2⟩ | ⟨h1, h2, h3⟩
    · exact scanL_turned hr hF hy h4 hp (fun c hc => h2 c (List.mem_of_mem_take hc)) (.inl ⟨h1, h2⟩)
    · exact scanL_turned hr hF hy h4 hp h2 (.inr ⟨h1, h3⟩)
  generalize fstN ys p (72 * l.length) = k at hfl hs
  have t2 : Int.tdiv (k : Int) 72 = ((k / 72 : Nat) : Int) := tdiv_nat k 72
  have w5 : IntKind.wrap .i64 ((k / 72 : Nat) : Int) = ((k / 72 : Nat) : Int) := wrap_i64_in (by omega) (by omega)
  have s3 : subI l 0 ((k / 72 : Nat) : Int) = some (l.take (k / 72)) := sub_pre l _ (by omega)
  have hlen : (l.take (k / 72)).length = k / 72 := by rw [List.length_take]; omega
  have same : sameB (l.take (k / 72)) (l.take (k / 72)) = true := (sameB_iff _ _).2 rfl
  have w6 : IntKind.wrap .i64 (((l.take (k / 72)).length : Int) * 72) = ((72 * (l.take (k / 72)).length : Nat) : Int) := by rw [wrap_i64_in (by omega) (by omega)]; omega
  simp only [scan_Scan hbt (by omega), hs, Option.bind_some, t2, w5, s3, ref05_Same _ _ (show (l.take (k / 72)).length < 1000000 by omega), same, w6, beq_self_eq_true, Bool.and_self]
theorem neZ (n : Nat) : ((n : Int) != 0) = !(decide (n = 0)) := by
  rw [Bool.eq_iff_iff]; simp
theorem pure_ScanTurned (a : (List FrmR) × (Int × ((Int × (Int × (Int × (Int × Unit)))) × (Int × (Int × Unit))))) (h : Rg (consS [.slice 9 shFrame, .int .u16, .cons (.int .u8) (.cons (.int .u8) (.cons (.int .u8) (.cons (.int .u8) .nil))), .int .i64, .int .i64]) a) : g_law05_ScanTurned a = some true := by
  obtain ⟨l, at_, y, lsn, ep, ⟨⟩⟩ := a
  obtain ⟨hl, ha, hy, _⟩ := h
  obtain ⟨y0, y1, y2, y3, rfl, l0, l1, l2, l3⟩ := four_bytes hy
  have ha : 0 ≤ at_ ∧ at_ < 65536 := wf_u16 ha
  have hF := rgFs hl
  obtain ⟨q, rfl⟩ : ∃ q : Nat, at_ = (q : Int) := ⟨at_.toNat, (Int.toNat_of_nonneg ha.1).symm⟩
  unfold g_law05_ScanTurned
  rw [scan_awake]
  simp only [Option.bind_some, Bool.not_true, cond_false]
  by_cases h1 : l.length > 20
  · have : decide ((l.length : Int) > 20) = true := decide_eq_true (by omega)
    simp only [this, Bool.true_or, cond_true, Option.bind_some]
  have e1 : decide ((l.length : Int) > 20) = false := decide_eq_false (by omega)
  by_cases h0 : l.length = 0
  · have : ((l.length : Int) == 0) = true := by rw [beq_iff_eq]; omega
    simp only [e1, this, Bool.or_true, cond_true, Option.bind_some]
  have e0 : ((l.length : Int) == 0) = false := by rw [beq_eq_false_iff_ne]; omega
  simp only [e1, e0, Bool.or_self, cond_false, scan_Row l (by omega), Option.bind_some]
  cases hr : rowB l lsn ep
  · rfl
  have p2 : g_scan_Put (l, ()) = some (ints (putL l), (0, ())) := by rw [scan_Put l (by omega), if_pos (rowB_all hr)]
  have hlen := putL_length l
  have hb := putL_byt l
  have hL : ((ints (putL l)).length : Int) = ((72 * l.length : Nat) : Int) := by rw [ints_length, hlen]
  have c0 : (((72 * l.length : Nat) : Int) == 0) = false := by rw [beq_eq_false_iff_ne]; omega
  have c2 : decide (((72 * l.length : Nat) : Int) = 0) = false := decide_eq_false (by omega)
  have w4 : IntKind.wrap .i64 (q : Int) = (q : Int) := wrap_i64_in (by omega) (by omega)
  have t1 : Int.tmod (q : Int) ((72 * l.length : Nat) : Int) = ((q % (72 * l.length) : Nat) : Int) := tmod_nat q _
  have hp : q % (72 * l.length) < 72 * l.length := Nat.mod_lt _ (by omega)
  have A := app_nil_ints (show (putL l).length ≤ 1000000 by omega)
  have va : IntKind.wrap .i64 (3 - 1) = 2 := rfl
  have vb : IntKind.wrap .i64 (2 - 1) = 1 := rfl
  have vc : IntKind.wrap .i64 (1 - 1) = 0 := rfl
  have wa : IntKind.wrap .i64 (0 + 1) = 1 := rfl
  have wb : IntKind.wrap .i64 (1 + 1) = 2 := rfl
  have wc : IntKind.wrap .i64 (2 + 1) = 3 := rfl
  have wd : IntKind.wrap .i64 (3 + 1) = 4 := rfl
  simp only [Bool.not_true, cond_false, p2, Option.bind_some, bne_self_eq_false, hL, c0, c2, Bool.or_self, w4, t1, A, va, vb, vc, wa, wb, wc, wd]
  generalize hpp : q % (72 * l.length) = p at *
  have q0 : IntKind.wrap .i64 ((p : Int) + 0) = ((p + 0 : Nat) : Int) := by rw [wrap_i64_in (by omega) (by omega)]; rfl
  have q1 : IntKind.wrap .i64 ((p : Int) + 1) = ((p + 1 : Nat) : Int) := by rw [wrap_i64_in (by omega) (by omega)]; rfl
  have q2 : IntKind.wrap .i64 ((p : Int) + 2) = ((p + 2 : Nat) : Int) := by rw [wrap_i64_in (by omega) (by omega)]; rfl
  have q3 : IntKind.wrap .i64 ((p : Int) + 3) = ((p + 3 : Nat) : Int) := by rw [wrap_i64_in (by omega) (by omega)]; rfl
  have d0 : decide ((0 : Int) < 4) = true := rfl
  have d1 : decide ((1 : Int) < 4) = true := rfl
  have d2 : decide ((2 : Int) < 4) = true := rfl
  have d3 : decide ((3 : Int) < 4) = true := rfl
  have d4 : decide ((4 : Int) < 4) = false := rfl
  have lt : ∀ j : Nat, p + j < 72 * l.length → decide (((p + j : Nat) : Int) < ((72 * l.length : Nat) : Int)) = true := fun j h => decide_eq_true (by omega)
  have ge : ∀ j : Nat, ¬ p + j < 72 * l.length → decide (((p + j : Nat) : Int) < ((72 * l.length : Nat) : Int)) = false := fun j h => decide_eq_false (by omega)
  simp only [q0, q1, q2, q3, d0, d1, d2, d3, d4, Bool.true_and, Bool.false_and, neZ, lt 0 (by omega), cond_true]
  have fin := fun (ys : List Nat) (hy : byt ys) (h4 : ys.length ≤ 4) (hp : p + ys.length ≤ 72 * l.length) => turned_scan (by omega) hr hF hy h4 hp
  obtain ⟨_, a2, a3, a4, a5⟩ := wstep (ns := putL l) (ys := []) (p := p) (y := y0) hb l0 (by simp; omega)
  simp only [List.length_nil, List.nil_append, turn_nil] at a2 a3 a4 a5
  simp only [a2, a3, a4, a5, cond_true, Option.bind_some]
  by_cases c1 : p + 1 < 72 * l.length
  rotate_left
  · simp only [ge 1 c1, ge 2 (by omega), ge 3 (by omega), Bool.false_and, cond_false, Option.bind_some]
    refine Eq.trans ?_ (fin [y0] (by simpa [byt] using l0) (by simp) (by simp; omega))
    by_cases z0 : y0 = 0 <;> simp [fstN, z0]
  obtain ⟨_, b2, b3, b4, b5⟩ := wstep (ns := putL l) (ys := [y0]) (p := p) (y := y1) hb l1 (by simpa [hlen] using c1)
  simp only [List.length_cons, List.length_nil, Nat.zero_add, List.cons_append, List.nil_append] at b2 b3 b4 b5
  simp only [lt 1 c1, b2, b3, b4, b5, cond_true, Option.bind_some, Bool.true_and]
  by_cases c2 : p + 2 < 72 * l.length
  rotate_left
  · simp only [ge 2 c2, ge 3 (by omega), Bool.false_and, cond_false, Option.bind_some]
    refine Eq.trans ?_ (fin [y0, y1] (by simp [byt, l0, l1]) (by simp) (by simp; omega))
    by_cases z0 : y0 = 0 <;> by_cases z1 : y1 = 0 <;> simp [fstN, z0, z1]
  obtain ⟨_, b2, b3, b4, b5⟩ := wstep (ns := putL l) (ys := [y0, y1]) (p := p) (y := y2) hb l2 (by simpa [hlen] using c2)
  simp only [List.length_cons, List.length_nil, Nat.zero_add, Nat.reduceAdd, List.cons_append, List.nil_append] at b2 b3 b4 b5
  simp only [lt 2 c2, b2, b3, b4, b5, cond_true, Option.bind_some, Bool.true_and]
  by_cases c3 : p + 3 < 72 * l.length
  rotate_left
  · simp only [ge 3 c3, Bool.false_and, cond_false, Option.bind_some]
    refine Eq.trans ?_ (fin [y0, y1, y2] (by simp [byt, l0, l1, l2]) (by simp) (by simp; omega))
    by_cases z0 : y0 = 0 <;> by_cases z1 : y1 = 0 <;> by_cases z2 : y2 = 0 <;> simp [fstN, z0, z1, z2, Int.add_assoc]
  obtain ⟨_, b2, b3, b4, b5⟩ := wstep (ns := putL l) (ys := [y0, y1, y2]) (p := p) (y := y3) hb l3 (by simpa [hlen] using c3)
  simp only [List.length_cons, List.length_nil, Nat.zero_add, Nat.reduceAdd, List.cons_append, List.nil_append] at b2 b3 b4 b5
  simp only [lt 3 c3, b2, b3, b4, b5, cond_true, cond_false, Option.bind_some, Bool.true_and]
  refine Eq.trans ?_ (fin [y0, y1, y2, y3] (by simp [byt, l0, l1, l2, l3]) (by simp) (by simp; omega))
  by_cases z0 : y0 = 0 <;> by_cases z1 : y1 = 0 <;> by_cases z2 : y2 = 0 <;> by_cases z3 : y3 = 0 <;> simp [fstN, z0, z1, z2, z3, Int.add_assoc]
end Go.AI
