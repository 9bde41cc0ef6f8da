/- frame: a frame's bytes that are changed only within four that follow one another are none of a frame; nor are fewer of them, or more. -/
import Derived.Test.YthmgondhniecnaaXFrameH
import Derived.Test.YthmgondhniecnaaXTurn
namespace Go.AI
theorem zip_zero : ∀ {a ys : List Nat}, a.length = ys.length → (∀ c ∈ ys, c = 0) → List.zipWith (· ^^^ ·) a ys = a
  | [], [], _, _ => rfl
  | x :: a, y :: ys, h, hz => by
    rw [List.zipWith_cons_cons, hz y (List.mem_cons_self ..), Nat.xor_zero, zip_zero (by simpa using h) fun c hc => hz c (List.mem_cons_of_mem _ hc)]
theorem turn_zero {ns ys : List Nat} {k : Nat} (hk : k + ys.length ≤ ns.length) (hz : ∀ c ∈ ys, c = 0) : turn ns k ys = ns := by
  unfold turn
  rw [zip_zero (by simp; omega) hz, List.append_assoc, ← List.drop_drop, List.take_append_drop, List.take_append_drop]
theorem more_codeF (f : FrmR) : moreN 0 (codeF f) = 4294967295 ^^^ halves 32 4294967295 := by
  unfold codeF codeN
  exact more_sum (textN_lt _ _ _ _ _ _ _ _ _)
theorem dec_turn {f : FrmR} (hf : frmB f = true) (fi : FrmIn f) {p : Nat} {ys : List Nat} (hy : byt ys) (h4 : ys.length ≤ 4) (hp : p + ys.length ≤ 72) : (decF (turn (codeF f) p ys)).2.1 = 0 ↔ ∀ c ∈ ys, c = 0 := by
  have hl := codeF_length f
  have hb := codeF_byt f
  constructor
  · intro h
    have hp' : decF (turn (codeF f) p ys) = ((decF (turn (codeF f) p ys)).1, (0, ())) := by rw [← h]
    obtain ⟨_, h2, _, _⟩ := code_dec (turn_lt hb hy) hp'
    have := more_codeF (decF (turn (codeF f) p ys)).1
    rw [h2, ← more_codeF f, more_turn hb hy h4 (by omega)] at this
    exact this
  · intro h
    rw [turn_zero (by omega) h, dec_code f hf fi]
theorem decF_len {bs : List Nat} (h : bs.length ≠ 72) : (decF bs).2.1 = 2 := by
  unfold decF
  rw [if_pos h]
/-- One byte is turned. -/
theorem wstep {ns ys : List Nat} {p y : Nat} (hn : byt ns) (hy : y < 256) (h : p + ys.length < ns.length) :
    decide (((p + ys.length : Nat) : Int) < ((ints ns).length : Int)) = true ∧ getI (ints ns) ((p + ys.length : Nat) : Int) = some ((ns[p + ys.length] : Nat) : Int) ∧ inI ((p + ys.length : Nat) : Int) (ints (turn ns p ys)).length = true ∧
    (∀ {β : Type} (X : Option β), ((ints (turn ns p ys))[Int.toNat ((p + ys.length : Nat) : Int)]?).bind (fun _ => X) = X) ∧
    (ints (turn ns p ys)).set (Int.toNat ((p + ys.length : Nat) : Int)) (bits .xor .u8 ((ns[p + ys.length] : Nat) : Int) (y : Int)) = ints (turn ns p (ys ++ [y])) := by
  have hl : (turn ns p ys).length = ns.length := turn_length (by omega)
  refine ⟨decide_eq_true (by rw [ints_length]; omega), getI_ints h, ?_, fun X => ?_, ?_⟩
  · unfold inI
    rw [ints_length, hl]
    exact decide_eq_true ⟨by omega, by omega⟩
  · rw [Int.toNat_natCast, List.getElem?_eq_getElem (by rw [ints_length, hl]; exact h)]
    rfl
  · rw [Int.toNat_natCast, u8_xor (hn _ (List.getElem_mem h)) hy, ints_set, turn_snoc h]
theorem wstop {ns : List Nat} {q : Nat} (h : ¬ q < ns.length) : decide ((q : Int) < ((ints ns).length : Int)) = false := decide_eq_false (by rw [ints_length]; omega)
theorem app_nil_ints {ns : List Nat} (h : ns.length ≤ 1000000) : appX [] (ints ns) 1 = some (ints ns) := by
  have := app_ints (a := []) (b := ns) (by simpa using h)
  rw [show ints [] = [] from rfl, List.nil_append] at this
  exact this
theorem any_zero1 (a : Nat) : ((a : Int) != 0) = decide (¬ a = 0) := by
  rw [Bool.eq_iff_iff]; simp
theorem not_zero (c : Nat) : (¬ c = 0) = (c ≠ 0) := rfl
theorem four_bytes {y : Int × (Int × (Int × (Int × Unit)))} (h : Rg (.cons (.int .u8) (.cons (.int .u8) (.cons (.int .u8) (.cons (.int .u8) .nil)))) y) : ∃ a b c d : Nat, y = ((a : Int), ((b : Int), ((c : Int), ((d : Int), ())))) ∧ a < 256 ∧ b < 256 ∧ c < 256 ∧ d < 256 := by
  obtain ⟨a, b, c, d, u⟩ := y
  obtain ⟨h1, h2, h3, h4, _⟩ := h
  have h1 : 0 ≤ a ∧ a < 256 := wf_u8 h1
  have h2 : 0 ≤ b ∧ b < 256 := wf_u8 h2
  have h3 : 0 ≤ c ∧ c < 256 := wf_u8 h3
  have h4 : 0 ≤ d ∧ d < 256 := wf_u8 h4
  refine ⟨a.toNat, b.toNat, c.toNat, d.toNat, ?_, by omega, by omega, by omega, by omega⟩
  simp only [Int.toNat_of_nonneg h1.1, Int.toNat_of_nonneg h2.1, Int.toNat_of_nonneg h3.1, Int.toNat_of_nonneg h4.1]
/-- The end of the law: what is turned, fewer bytes, and more. -/
theorem turned_end {f : FrmR} (hf : frmB f = true) (fi : FrmIn f) {p q : Nat} {ys m : List Nat} (hy : byt ys) (h4 : ys.length ≤ 4) (hp : p + ys.length ≤ 72) (hm : byt m) (hml : m.length ≤ 9) {t : Bool} (ht : t = true ↔ ¬ ∀ c ∈ ys, c = 0) :
    ((g_frame_Decode (ints (turn (codeF f) p ys), ())).bind fun v14 => bif decide (((ints (codeF f)).length : Int) = 0) then none else
      (subI (ints (codeF f)) 0 (((q % 72 : Nat)) : Int)).bind fun v15 => (g_frame_Decode (v15, ())).bind fun v16 => (appX [] (ints (codeF f)) 1).bind fun v17 => (appX v17 (ints m) 1).bind fun v18 => (g_frame_Decode (v18, ())).bind fun v19 =>
        some ((((v14.2.1 == 0) == (!t)) && (v16.2.1 == 2)) && ((((ints m).length : Int) == 0) || (v19.2.1 == 2)))) = some true := by
  have hl := codeF_length f
  have hb := codeF_byt f
  have hq : q % 72 < 72 := Nat.mod_lt _ (by decide)
  have hd := dec_turn hf fi hy h4 hp
  have e0 : decide (((ints (codeF f)).length : Int) = 0) = false := decide_eq_false (by rw [ints_length]; omega)
  have e1 : ((decF (turn (codeF f) p ys)).2.1 == 0) = !t := by
    rw [Bool.eq_iff_iff, beq_iff_eq, hd]
    cases t
    · exact ⟨fun _ => rfl, fun _ => Classical.byContradiction fun hn => Bool.false_ne_true (ht.2 hn)⟩
    · exact ⟨fun h => absurd h (ht.1 rfl), fun h => by cases h⟩
  have e2 : (decF ((codeF f).take (q % 72))).2.1 = 2 := decF_len (by simp; omega)
  have e3 : ((((ints m).length : Int) == 0) || ((decF (codeF f ++ m)).2.1 == 2)) = true := by
    by_cases h0 : m.length = 0
    · simp [ints_length, h0]
    · rw [decF_len (bs := codeF f ++ m) (by simp; omega)]; simp
  have hbm : byt (codeF f ++ m) := fun x hx => (List.mem_append.1 hx).elim (hb x) (hm x)
  simp only [frame_Decode _ (turn_lt hb hy), e0, cond_false, sub_take _ (q % 72) (show q % 72 ≤ (codeF f).length by omega), Option.bind_some, frame_Decode _ (byt_take _ hb), app_nil_ints (show (codeF f).length ≤ 1000000 by omega), app_ints (show (codeF f).length + m.length ≤ 1000000 by omega), frame_Decode _ hbm, e1, e2, e3]
  simp
theorem pure_FrameTurned (a : FrmR × (Int × ((Int × (Int × (Int × (Int × Unit)))) × (Int × (List Int × Unit))))) (h : Rg (consS [shFrame, .int .u8, .cons (.int .u8) (.cons (.int .u8) (.cons (.int .u8) (.cons (.int .u8) .nil))), .int .u8, .slice 1 (.int .u8)]) a) : g_law04_FrameTurned a = some true := by
  obtain ⟨f, at_, y, cut, xs, u⟩ := a
  obtain ⟨hf, ha, hy, hc, hx, _⟩ := h
  obtain ⟨m, rfl, hm⟩ := ints_of (xs := xs) fun x hxs => hx.2 x hxs
  have hm : byt m := hm
  have fi := rgF hf
  obtain ⟨y0, y1, y2, y3, rfl, l0, l1, l2, l3⟩ := four_bytes hy
  have ha := wf_u8 ha
  have hc := wf_u8 hc
  obtain ⟨q, rfl⟩ : ∃ q : Nat, at_ = (q : Int) := ⟨at_.toNat, (Int.toNat_of_nonneg ha.1).symm⟩
  obtain ⟨r, rfl⟩ : ∃ r : Nat, cut = (r : Int) := ⟨cut.toNat, (Int.toNat_of_nonneg hc.1).symm⟩
  simp only at ha hc
  unfold g_law04_FrameTurned
  rw [frame_awake]
  simp only [Option.bind_some, Bool.not_true, cond_false, frame_Enc]
  by_cases h1 : frmB f = true
  rotate_left
  · simp [encF, h1]
  simp only [encF, if_pos h1]
  have hl := codeF_length f
  have hb := codeF_byt f
  have hL : ((ints (codeF f)).length : Int) = 72 := by rw [ints_length]; omega
  by_cases h2 : decide (((ints m).length : Int) > 9) = true
  · simp [h2]
  have h2' : decide (((ints m).length : Int) > 9) = false := by simpa using h2
  have hml : m.length ≤ 9 := by
    have := of_decide_eq_false h2'
    rw [ints_length] at this
    omega
  have hL0 : (((ints (codeF f)).length : Int) != 72) = false := by rw [hL]; rfl
  have hL1 : decide (((ints (codeF f)).length : Int) = 0) = false := decide_eq_false (by omega)
  have tq : Int.tmod (IntKind.wrap .i64 (q : Int)) ((ints (codeF f)).length : Int) = ((q % 72 : Nat) : Int) := by
    rw [hL, wrap_i64_in (by omega) (by omega)]; exact tmod_nat q 72
  have tr : Int.tmod (IntKind.wrap .i64 (r : Int)) ((ints (codeF f)).length : Int) = ((r % 72 : Nat) : Int) := by
    rw [hL, wrap_i64_in (by omega) (by omega)]; exact tmod_nat r 72
  have hp : q % 72 < 72 := Nat.mod_lt _ (by decide)
  generalize hpp : q % 72 = p at *
  have wa : IntKind.wrap .i64 (0 + 1) = 1 := rfl
  have wb : IntKind.wrap .i64 (1 + 1) = 2 := rfl
  have wc : IntKind.wrap .i64 (2 + 1) = 3 := rfl
  have wd : IntKind.wrap .i64 (3 + 1) = 4 := rfl
  have q0 : IntKind.wrap .i64 ((p : Int) + 0) = ((p + 0 : Nat) : Int) := by rw [wrap_i64_in (by omega) (by omega)]; rfl
  have q1 : IntKind.wrap .i64 ((p : Int) + 1) = ((p + 1 : Nat) : Int) := by rw [wrap_i64_in (by omega) (by omega)]; rfl
  have q2 : IntKind.wrap .i64 ((p : Int) + 2) = ((p + 2 : Nat) : Int) := by rw [wrap_i64_in (by omega) (by omega)]; rfl
  have q3 : IntKind.wrap .i64 ((p : Int) + 3) = ((p + 3 : Nat) : Int) := by rw [wrap_i64_in (by omega) (by omega)]; rfl
  have d0 : decide ((0 : Int) < 4) = true := rfl
  have d1 : decide ((1 : Int) < 4) = true := rfl
  have d2 : decide ((2 : Int) < 4) = true := rfl
  have d3 : decide ((3 : Int) < 4) = true := rfl
  have d4 : decide ((4 : Int) < 4) = false := rfl
  have dn : ∀ c : Nat, ((c : Int) != 0) = true ↔ c ≠ 0 := fun c => by simp
  have A := app_nil_ints (show (codeF f).length ≤ 1000000 by omega)
  simp only [h2', hL0, hL1, bne_self_eq_false, Bool.or_false, cond_false, A, Option.bind_some, tq, tr, wa, wb, wc, wd, q0, q1, q2, q3, d0, d1, d2, d3, d4, Bool.true_and, Bool.false_and, Bool.false_or]
  obtain ⟨a1, a2, a3, a4, a5⟩ := wstep (ns := codeF f) (ys := []) (p := p) (y := y0) hb l0 (by simp; omega)
  simp only [List.length_nil, List.nil_append, turn_nil] at a1 a2 a3 a4 a5
  simp only [a1, a2, a3, a4, a5, cond_true, Option.bind_some]
  have fin := fun (ys : List Nat) (hy : byt ys) (h4 : ys.length ≤ 4) (hp : p + ys.length ≤ 72) (t : Bool) (ht : t = true ↔ ¬ ∀ c ∈ ys, c = 0) => turned_end (q := r) h1 fi hy h4 hp hm hml ht
  simp only [hL1, cond_false, A, Option.bind_some] at fin
  by_cases c1 : p + 1 < (codeF f).length
  rotate_left
  · simp only [wstop c1, cond_false, Option.bind_some]
    exact fin [y0] (by simpa [byt] using l0) (by simp) (by simp; omega) _ (by simp)
  obtain ⟨b1, b2, b3, b4, b5⟩ := wstep (ns := codeF f) (ys := [y0]) (p := p) (y := y1) hb l1 (by simpa using c1)
  simp only [List.length_cons, List.length_nil, Nat.zero_add, List.cons_append, List.nil_append] at b1 b2 b3 b4 b5
  simp only [b1, b2, b3, b4, b5, cond_true, Option.bind_some]
  by_cases c2 : p + 2 < (codeF f).length
  rotate_left
  · simp only [wstop c2, cond_false, Option.bind_some]
    exact fin [y0, y1] (by simp [byt, l0, l1]) (by simp) (by simp; omega) _ (by simp; omega)
  obtain ⟨b1, b2, b3, b4, b5⟩ := wstep (ns := codeF f) (ys := [y0, y1]) (p := p) (y := y2) hb l2 (by simpa using c2)
  simp only [List.length_cons, List.length_nil, Nat.zero_add, Nat.reduceAdd, List.cons_append, List.nil_append] at b1 b2 b3 b4 b5
  simp only [b1, b2, b3, b4, b5, cond_true, Option.bind_some]
  by_cases c3 : p + 3 < (codeF f).length
  rotate_left
  · simp only [wstop c3, cond_false, Option.bind_some]
    exact fin [y0, y1, y2] (by simp [byt, l0, l1, l2]) (by simp) (by simp; omega) _ (by simp; omega)
  obtain ⟨b1, b2, b3, b4, b5⟩ := wstep (ns := codeF f) (ys := [y0, y1, y2]) (p := p) (y := y3) hb l3 (by simpa using c3)
  simp only [List.length_cons, List.length_nil, Nat.zero_add, Nat.reduceAdd, List.cons_append, List.nil_append] at b1 b2 b3 b4 b5
  simp only [b1, b2, b3, b4, b5, cond_true, cond_false, Option.bind_some]
  exact fin [y0, y1, y2, y3] (by simp [byt, l0, l1, l2, l3]) (by simp) (by simp; omega) _ (by simp; omega)
end Go.AI
