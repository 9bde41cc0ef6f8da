import Derived.Test.YtpolaeonmmolnaaL
import Derived.Test.YtpolaeonmmolnaaALj
import Derived.KernelRfl
namespace Go.AI
set_option linter.unusedVariables false
set_option linter.unusedSimpArgs false


def fit (n : Int) : Prop := -9223372036854775808 ≤ n ∧ n < 9223372036854775808
instance (n : Int) : Decidable (fit n) := by unfold fit; infer_instance


theorem nb_u64 (n : Int) : IntKind.u64.wrap n = n % 18446744073709551616 := by simp [IntKind.wrap, IntKind.bits, IntKind.signed]

theorem nb_u64_in (n : Int) (h0 : 0 ≤ n) (h1 : n < 18446744073709551616) : IntKind.u64.wrap n = n := by rw [nb_u64]; omega

theorem nb_wraps_u64 (n : Int) (h0 : 0 ≤ n) (h1 : n < 2 ^ 64) : IntKind.u64.wrap n = n := nb_u64_in n h0 (by simpa using h1)

theorem nb_mask (x : Int) (h0 : 0 ≤ x) (h1 : x < 18446744073709551616) : Go.bits .and .u64 x 4294967295 = x % 4294967296 :=
  bits_mask .u64 64 (by decide) nb_wraps_u64 32 (by decide) x h0 (by simpa using h1)

theorem nb_prod (a b n m : Int) (ha : 0 ≤ a) (hb : 0 ≤ b) (h1 : a ≤ n) (h2 : b ≤ m) : 0 ≤ a * b ∧ a * b ≤ n * m :=
  ⟨Int.mul_nonneg ha hb, Int.mul_le_mul h1 h2 hb (Int.le_trans ha h1)⟩

theorem bits_Mul64 (x y : Int) (hx0 : 0 ≤ x) (hx1 : x < 18446744073709551616) (hy0 : 0 ≤ y) (hy1 : y < 18446744073709551616) :
    g_math_bits_Mul64 x y = some (x * y / 18446744073709551616, x * y % 18446744073709551616) := by
  unfold g_math_bits_Mul64
  simp only [show ∀ z : Int, Int.fdiv z 4294967296 = z / 4294967296 from fun z => Int.fdiv_eq_ediv_of_nonneg z (by omega)]
  rw [nb_mask x hx0 hx1, nb_mask y hy0 hy1]
  obtain ⟨xh, xl, rfl, a0, a1, a2, a3⟩ : ∃ xh xl : Int, x = xh * 4294967296 + xl ∧ 0 ≤ xh ∧ xh ≤ 4294967295 ∧ 0 ≤ xl ∧ xl ≤ 4294967295 :=
    ⟨x / 4294967296, x % 4294967296, by omega, by omega, by omega, by omega, by omega⟩
  obtain ⟨yh, yl, rfl, b0, b1, b2, b3⟩ : ∃ yh yl : Int, y = yh * 4294967296 + yl ∧ 0 ≤ yh ∧ yh ≤ 4294967295 ∧ 0 ≤ yl ∧ yl ≤ 4294967295 :=
    ⟨y / 4294967296, y % 4294967296, by omega, by omega, by omega, by omega, by omega⟩
  have e1 : (xh * 4294967296 + xl) / 4294967296 = xh := by omega
  have e2 : (xh * 4294967296 + xl) % 4294967296 = xl := by omega
  have e3 : (yh * 4294967296 + yl) / 4294967296 = yh := by omega
  have e4 : (yh * 4294967296 + yl) % 4294967296 = yl := by omega
  rw [e1, e2, e3, e4]
  have p := nb_prod xh yh _ _ a0 b0 a1 b1
  have q := nb_prod xh yl _ _ a0 b2 a1 b3
  have r := nb_prod xl yh _ _ a2 b0 a3 b1
  have s := nb_prod xl yl _ _ a2 b2 a3 b3
  have e : (xh * 4294967296 + xl) * (yh * 4294967296 + yl) = xh * yh * 18446744073709551616 + (xh * yl + xl * yh) * 4294967296 + xl * yl := by grind
  rw [e]
  clear e e1 e2 e3 e4
  generalize xh * yh = P at *
  generalize xh * yl = Q at *
  generalize xl * yh = R at *
  generalize xl * yl = S at *
  simp only [Int.reduceMul] at p q r s
  rw [nb_u64_in P (by omega) (by omega), nb_u64_in Q (by omega) (by omega), nb_u64_in R (by omega) (by omega), nb_u64_in S (by omega) (by omega)]
  have t1 : 0 ≤ Q + S / 4294967296 ∧ Q + S / 4294967296 < 18446744073709551616 := by omega
  rw [nb_u64_in (Q + S / 4294967296) t1.1 t1.2, nb_mask _ t1.1 t1.2]
  have t2 : 0 ≤ (Q + S / 4294967296) % 4294967296 + R ∧ (Q + S / 4294967296) % 4294967296 + R < 18446744073709551616 := by omega
  rw [nb_u64_in _ t2.1 t2.2]
  rw [nb_u64_in (P + (Q + S / 4294967296) / 4294967296) (by omega) (by omega)]
  rw [nb_u64_in (P + (Q + S / 4294967296) / 4294967296 + ((Q + S / 4294967296) % 4294967296 + R) / 4294967296) (by omega) (by omega)]
  rw [nb_u64]
  obtain ⟨s1, s0, hs, hs0, hs1⟩ : ∃ s1 s0 : Int, S = s1 * 4294967296 + s0 ∧ 0 ≤ s0 ∧ s0 < 4294967296 := ⟨S / 4294967296, S % 4294967296, by omega, by omega, by omega⟩
  have es : S / 4294967296 = s1 := by omega
  rw [es] at t1 t2 ⊢
  obtain ⟨u1, u0, hu, hu0, hu1⟩ : ∃ u1 u0 : Int, Q + s1 = u1 * 4294967296 + u0 ∧ 0 ≤ u0 ∧ u0 < 4294967296 := ⟨(Q + s1) / 4294967296, (Q + s1) % 4294967296, by omega, by omega, by omega⟩
  have eu : (Q + s1) / 4294967296 = u1 := by omega
  have eu' : (Q + s1) % 4294967296 = u0 := by omega
  rw [eu, eu']
  obtain ⟨v1, v0, hv, hv0, hv1⟩ : ∃ v1 v0 : Int, u0 + R = v1 * 4294967296 + v0 ∧ 0 ≤ v0 ∧ v0 < 4294967296 := ⟨(u0 + R) / 4294967296, (u0 + R) % 4294967296, by omega, by omega, by omega⟩
  have ev : (u0 + R) / 4294967296 = v1 := by omega
  rw [ev]
  simp only [Option.some.injEq, Prod.mk.injEq, and_true]
  have e : P * 18446744073709551616 + (Q + R) * 4294967296 + S = (P + u1 + v1) * 18446744073709551616 + (v0 * 4294967296 + s0) := by omega
  rw [e]
  omega


theorem num_size (a : Int) (ha : R_i64 a) : g_num_size a = some (a.natAbs : Int) := by
  unfold R_i64 at ha
  unfold g_num_size
  rw [nb_u64, nb_u64]
  by_cases h : a < 0
  · simp only [h, decide_true, cond_true]; congr 1; omega
  · simp only [h, decide_false, cond_false]; congr 1; omega
theorem nb_abs_mul (a b : Int) : a * b = if (decide (a < 0) != decide (b < 0)) = true then -((a.natAbs : Int) * (b.natAbs : Int)) else (a.natAbs : Int) * (b.natAbs : Int) := by
  by_cases h : a < 0
  · obtain ⟨n, rfl⟩ : ∃ n : Nat, a = -(n : Int) := ⟨a.natAbs, by omega⟩
    by_cases g : b < 0
    · obtain ⟨m, rfl⟩ : ∃ m : Nat, b = -(m : Int) := ⟨b.natAbs, by omega⟩
      simp only [h, g, decide_true, bne_self_eq_false, Int.natAbs_neg, Int.natAbs_natCast]; simp [Int.neg_mul_neg]
    · obtain ⟨m, rfl⟩ : ∃ m : Nat, b = (m : Int) := ⟨b.natAbs, by omega⟩
      simp only [h, g, decide_true, decide_false, Int.natAbs_neg, Int.natAbs_natCast]; simp [Int.neg_mul]
  · obtain ⟨n, rfl⟩ : ∃ n : Nat, a = (n : Int) := ⟨a.natAbs, by omega⟩
    by_cases g : b < 0
    · obtain ⟨m, rfl⟩ : ∃ m : Nat, b = -(m : Int) := ⟨b.natAbs, by omega⟩
      simp only [h, g, decide_true, decide_false, Int.natAbs_neg, Int.natAbs_natCast]; simp [Int.mul_neg]
    · obtain ⟨m, rfl⟩ : ∃ m : Nat, b = (m : Int) := ⟨b.natAbs, by omega⟩
      simp only [h, g, decide_false, bne_self_eq_false, Int.natAbs_natCast]; simp


theorem num_Mul (a b : Int) (ha : R_i64 a) (hb : R_i64 b) : g_num_Mul a b = some (if fit (a * b) then (a * b, 0) else (0, 3)) := by
  unfold g_num_Mul
  rw [num_size a ha, num_size b hb]
  simp only [Option.bind_some]
  have hpa : 0 ≤ (a.natAbs : Int) ∧ (a.natAbs : Int) ≤ 9223372036854775808 := by unfold R_i64 at ha; omega
  have hpb : 0 ≤ (b.natAbs : Int) ∧ (b.natAbs : Int) ≤ 9223372036854775808 := by unfold R_i64 at hb; omega
  rw [bits_Mul64 _ _ hpa.1 (by omega) hpb.1 (by omega)]
  simp only [Option.bind_some]
  have hab := nb_abs_mul a b
  have hp := nb_prod _ _ _ _ hpa.1 hpb.1 hpa.2 hpb.2
  generalize (a.natAbs : Int) * (b.natAbs : Int) = p at *
  generalize (decide (a < 0) != decide (b < 0)) = m at *
  generalize a * b = z at *
  clear hpa hpb ha hb
  simp only [Int.reduceMul] at hp
  rw [nb_u64]
  have e2 : ((0 : Int) - p % 18446744073709551616) % 18446744073709551616 = (if p % 18446744073709551616 = 0 then 0 else 18446744073709551616 - p % 18446744073709551616) := by split <;> omega
  by_cases h1 : p / 18446744073709551616 = 0
  · have e : p % 18446744073709551616 = p := by omega
    rw [e] at e2 ⊢
    rw [e2]
    have b1 : (p / 18446744073709551616 == 0) = true := by simp [h1]
    rw [b1]
    cases m with
    | true =>
      simp only [if_true] at hab
      by_cases h2 : p ≤ 9223372036854775808
      · have hf : fit z := by unfold fit; omega
        simp only [h2, decide_true, Bool.and_self, cond_true, hf, if_true]
        have := IntKind.wrap_i64 (if p = 0 then 0 else 18446744073709551616 - p)
        congr 2
        rw [this]
        split <;> omega
      · have hf : ¬ fit z := by unfold fit; omega
        have h3 : ¬ p ≤ 9223372036854775807 := by omega
        simp [h2, h3, hf]
    | false =>
      simp only [Bool.false_eq_true, if_false] at hab
      by_cases h2 : p ≤ 9223372036854775807
      · have hf : fit z := by unfold fit; omega
        simp only [h2, decide_true, Bool.and_self, Bool.and_false, Bool.false_and, cond_true, cond_false, hf, if_true]
        congr 2
        rw [wrap_of (by omega) (by omega)]
        exact hab.symm
      · have hf : ¬ fit z := by unfold fit; omega
        simp [h2, hf]
  · have b1 : (p / 18446744073709551616 == 0) = false := by simp [h1]
    have hf : ¬ fit z := by
      unfold fit
      cases m <;> simp only [Bool.false_eq_true, if_true, if_false] at hab <;> omega
    simp [b1, hf]


theorem nr_whole (a : Int) (ha : R_i64 a) : g_snaffleref01_whole a = some (a.natAbs : Int) := by
  unfold R_i64 at ha
  unfold g_snaffleref01_whole
  by_cases h : a < 0
  · have w1 : IntKind.wrap .i64 (a + 1) = a + 1 := wrap_of (by omega) (by omega)
    have w2 : IntKind.wrap .i64 (0 - (a + 1)) = 0 - (a + 1) := wrap_of (by omega) (by omega)
    simp only [h, decide_true, cond_true, w1, w2]
    rw [nb_u64_in (0 - (a + 1)) (by omega) (by omega), nb_u64_in _ (by omega) (by omega)]
    congr 1; omega
  · simp only [h, decide_false, cond_false]
    rw [nb_u64_in _ (by omega) (by omega)]; congr 1; omega

theorem nr_fd (x : Int) : Int.fdiv x 4294967296 = x / 4294967296 := Int.fdiv_eq_ediv_of_nonneg x (by decide)

theorem nr_mul0 (a b : Int) (ha : R_i64 a) (hb : R_i64 b) :
    ∃ d, g_snaffleref01_Mul a b = some (d, decide (-9223372036854775808 ≤ a * b ∧ a * b < 9223372036854775808)) ∧ ((-9223372036854775808 ≤ a * b ∧ a * b < 9223372036854775808) → d = a * b) := by
  unfold g_snaffleref01_Mul
  rw [nr_whole a ha, nr_whole b hb]
  simp only [Option.bind_some]
  rw [nb_abs_mul a b]
  have hpa : 0 ≤ (a.natAbs : Int) ∧ (a.natAbs : Int) ≤ 9223372036854775808 := by unfold R_i64 at ha; omega
  have hpb : 0 ≤ (b.natAbs : Int) ∧ (b.natAbs : Int) ≤ 9223372036854775808 := by unfold R_i64 at hb; omega
  have hm : (a.natAbs : Int) * (b.natAbs : Int) = 0 ∨ 0 < (a.natAbs : Int) * (b.natAbs : Int) := by
    rcases Int.lt_or_le 0 ((a.natAbs : Int) * (b.natAbs : Int)) with h | h
    · exact .inr h
    · exact .inl (by have := Int.mul_nonneg hpa.1 hpb.1; omega)
  generalize (decide (a < 0) != decide (b < 0)) = m
  generalize (a.natAbs : Int) = x at *
  generalize (b.natAbs : Int) = y at *
  clear ha hb
  simp only [nr_fd]
  rw [nb_mask x hpa.1 (by omega), nb_mask y hpb.1 (by omega)]
  obtain ⟨xh, xl, rfl, a0, a1, a2, a3⟩ : ∃ xh xl : Int, x = xh * 4294967296 + xl ∧ 0 ≤ xh ∧ xh ≤ 4294967295 ∧ 0 ≤ xl ∧ xl ≤ 4294967295 :=
    ⟨x / 4294967296, x % 4294967296, by omega, by omega, by omega, by omega, by omega⟩
  obtain ⟨yh, yl, rfl, b0, b1, b2, b3⟩ : ∃ yh yl : Int, y = yh * 4294967296 + yl ∧ 0 ≤ yh ∧ yh ≤ 4294967295 ∧ 0 ≤ yl ∧ yl ≤ 4294967295 :=
    ⟨y / 4294967296, y % 4294967296, by omega, by omega, by omega, by omega, by omega⟩
  have e1 : (xh * 4294967296 + xl) / 4294967296 = xh := by omega
  have e2 : (xh * 4294967296 + xl) % 4294967296 = xl := by omega
  have e3 : (yh * 4294967296 + yl) / 4294967296 = yh := by omega
  have e4 : (yh * 4294967296 + yl) % 4294967296 = yl := by omega
  rw [e1, e2, e3, e4]
  have p := nb_prod xh yh _ _ a0 b0 a1 b1
  have q := nb_prod xh yl _ _ a0 b2 (show xh ≤ 2147483648 by omega) b3
  have r := nb_prod xl yh _ _ a2 b0 a3 (show yh ≤ 2147483648 by omega)
  have s := nb_prod xl yl _ _ a2 b2 a3 b3
  have e : (xh * 4294967296 + xl) * (yh * 4294967296 + yl) = xh * yh * 18446744073709551616 + (xh * yl + xl * yh) * 4294967296 + xl * yl := by grind
  rw [e] at hm ⊢
  have hP : xh * yh = 0 ↔ ¬ (xh > 0 ∧ yh > 0) := by
    rw [Int.mul_eq_zero]; omega
  clear e e1 e2 e3 e4
  simp only [cond_eq_ite, Bool.and_eq_true, Bool.or_eq_true, decide_eq_true_eq]
  by_cases c : xh > 0 ∧ yh > 0
  · have hP' : 0 < xh * yh := by
      have := (not_congr hP).2 (by simpa using c)
      omega
    rw [if_pos c]
    refine ⟨0, ?_, ?_⟩
    · congr 2
      symm
      rw [decide_eq_false_iff_not]
      cases m <;> simp only [Bool.false_eq_true, if_true, if_false] <;> omega
    · intro hh
      cases m <;> simp only [Bool.false_eq_true, if_true, if_false] at hh ⊢ <;> omega
  · have hP' : xh * yh = 0 := hP.2 c
    rw [hP'] at hm ⊢
    rw [if_neg c]
    clear hP hP' p c
    generalize xh * yl = Q at *
    generalize xl * yh = R at *
    generalize xl * yl = S at *
    simp only [Int.reduceMul] at q r s
    rw [nb_u64_in Q (by omega) (by omega), nb_u64_in R (by omega) (by omega), nb_u64_in S (by omega) (by omega)]
    rw [nb_u64_in (Q + R) (by omega) (by omega)]
    by_cases h1 : Q + R ≥ 4294967296
    · rw [if_pos h1]
      refine ⟨0, ?_, ?_⟩
      · congr 2
        symm
        rw [decide_eq_false_iff_not]
        cases m <;> simp only [Bool.false_eq_true, if_true, if_false] <;> omega
      · intro hh
        cases m <;> simp only [Bool.false_eq_true, if_true, if_false] at hh ⊢ <;> omega
    · rw [if_neg h1]
      rw [nb_u64_in ((Q + R) * 4294967296) (by omega) (by omega)]
      by_cases h2 : (Q + R) * 4294967296 + S < 18446744073709551616
      · rw [nb_u64_in ((Q + R) * 4294967296 + S) (by omega) h2]
        by_cases h3 : (Q + R) * 4294967296 + S > 9223372036854775808
        · rw [if_pos (by omega)]
          refine ⟨0, ?_, ?_⟩
          · congr 2
            symm
            rw [decide_eq_false_iff_not]
            cases m <;> simp only [Bool.false_eq_true, if_true, if_false] <;> omega
          · intro hh
            cases m <;> simp only [Bool.false_eq_true, if_true, if_false] at hh ⊢ <;> omega
        · rw [if_neg (by omega)]
          generalize hn : (Q + R) * 4294967296 + S = n at *
          have hn' : 0 * 18446744073709551616 + (Q + R) * 4294967296 + S = n := by omega
          rw [hn'] at hm ⊢
          cases m <;> simp only [Bool.false_eq_true, if_true, if_false]
          · refine ⟨IntKind.wrap .i64 (IntKind.wrap .u64 n), ?_, ?_⟩
            · rw [show decide (n < 9223372036854775808) = decide (-9223372036854775808 ≤ n ∧ n < 9223372036854775808) from decide_eq_decide.2 (by omega)]
              try rw [nb_u64_in n (by omega) (by omega)]
            · intro hh; rw [nb_u64_in n (by omega) (by omega)]; exact wrap_of (by omega) (by omega)
          · refine ⟨IntKind.wrap .i64 (IntKind.wrap .u64 (0 - n)), ?_, ?_⟩
            · rw [show decide (-9223372036854775808 ≤ -n ∧ -n < 9223372036854775808) = true from decide_eq_true (by omega)]
              try rw [nb_u64_in n (by omega) (by omega)]
            · intro hh; rw [nb_u64, IntKind.wrap_i64]; omega
      · have e5 : IntKind.u64.wrap ((Q + R) * 4294967296 + S) = (Q + R) * 4294967296 + S - 18446744073709551616 := by rw [nb_u64]; omega
        rw [e5, if_pos (by omega)]
        refine ⟨0, ?_, ?_⟩
        · congr 2
          symm
          rw [decide_eq_false_iff_not]
          cases m <;> simp only [Bool.false_eq_true, if_true, if_false] <;> omega
        · intro hh
          cases m <;> simp only [Bool.false_eq_true, if_true, if_false] at hh ⊢ <;> omega

theorem nr_mul (a b : Int) (ha : R_i64 a) (hb : R_i64 b) :
    ∃ d, g_snaffleref01_Mul a b = some (d, decide (fit (a * b))) ∧ (fit (a * b) → d = a * b) := by
  obtain ⟨d, h1, h2⟩ := nr_mul0 a b ha hb
  refine ⟨d, ?_, h2⟩
  rw [h1]
  congr 2


def idP (n : Int) : Prop := 1 ≤ n ∧ n ≤ 1000000000000
instance (n : Int) : Decidable (idP n) := by unfold idP; infer_instance
def newP (id ac sy sd q p : Int) : Prop := idP id ∧ 0 ≤ ac ∧ ac < 8 ∧ 0 ≤ sy ∧ sy < 8 ∧ (sd = 1 ∨ sd = 2) ∧ 1 ≤ q ∧ 1 ≤ p
instance (id ac sy sd q p : Int) : Decidable (newP id ac sy sd q p) := by unfold newP; infer_instance
def evP (n : NoteT) : Prop := 1 ≤ n.Seq ∧ n.Seq ≤ 1000000000 ∧ idP n.Order ∧ ((n.What = 3 ∧ 1 ≤ n.Qty ∧ n.Price = 0) ∨ (n.What = 5 ∧ 1 ≤ n.Qty ∧ 1 ≤ n.Price) ∨ ((n.What = 1 ∨ n.What = 2 ∨ n.What = 4 ∨ n.What = 6) ∧ n.Qty = 0 ∧ n.Price = 0))
instance (n : NoteT) : Decidable (evP n) := by unfold evP; infer_instance
def pend (o : OrderT) : Prop := o.NewQty ≠ 0 ∨ o.NewPrice ≠ 0
instance (o : OrderT) : Decidable (pend o) := by unfold pend; infer_instance
def ordP (o : OrderT) : Prop := newP o.Id o.Account o.Symbol o.Side o.Qty o.Price ∧ 0 ≤ o.Filled ∧ o.Filled ≤ o.Qty ∧ 0 ≤ o.Version ∧ (pend o → 1 ≤ o.NewQty ∧ 1 ≤ o.NewPrice) ∧
  ((o.Phase = 1 ∧ o.Filled = 0 ∧ o.Version = 0 ∧ ¬ pend o) ∨ (o.Phase = 2 ∧ o.Filled < o.Qty) ∨ (o.Phase = 3 ∧ ¬ pend o))
instance (o : OrderT) : Decidable (ordP o) := by unfold ordP; infer_instance

theorem cond_some {α : Type} (c : Bool) (a b : α) : (bif c then some a else some b) = some (bif c then a else b) := by cases c <;> rfl
theorem dec_of {b : Bool} {p : Prop} [Decidable p] (h : b = true ↔ p) : b = decide p := by
  rw [Bool.eq_iff_iff, decide_eq_true_iff]; exact h

theorem rec_New (id ac sy sd q p : Int) : g_rec_Right ⟨1, id, ac, sy, sd, q, p, 0, 0, 0, false, 0, 0⟩ = some (decide (newP id ac sy sd q p)) := by
  simp only [g_rec_Right, g_rec_fields, g_rec_known, g_rec_below, g_rec_sized, beq_self_eq_true, cond_true, Option.bind_some, Bool.and_self, Bool.not_true, cond_false, Bool.true_and, cond_some]
  congr 1
  refine dec_of ?_
  unfold newP idP
  simp
  omega

theorem rec_Event (n : NoteT) : g_rec_Right ⟨6, n.Order, 0, 0, 0, n.Qty, n.Price, 0, 0, 0, false, n.Seq, n.What⟩ = some (decide (evP n)) := by
  have k1 : ((6 : Int) == 1) = false := rfl
  have k2 : ((6 : Int) == 2) = false := rfl
  have k3 : ((6 : Int) == 3) = false := rfl
  have k4 : ((6 : Int) == 4) = false := rfl
  have k5 : ((6 : Int) == 5) = false := rfl
  simp only [g_rec_Right, g_rec_fields, g_rec_known, g_rec_below, g_rec_sized, g_rec_event, k1, k2, k3, k4, k5, beq_self_eq_true, cond_true, Option.bind_some, Bool.and_self, Bool.not_true, cond_false, Bool.true_and, cond_some]
  congr 1
  refine dec_of ?_
  unfold evP idP
  by_cases w1 : n.What = 1
  · simp [w1]; try omega
  by_cases w2 : n.What = 2
  · simp [w2]; try omega
  by_cases w3 : n.What = 3
  · simp [w3]; try omega
  by_cases w4 : n.What = 4
  · simp [w4]; try omega
  by_cases w5 : n.What = 5
  · simp [w5]; try omega
  by_cases w6 : n.What = 6
  · simp [w6]; try omega
  simp [w1, w2, w3, w4, w5, w6]
  try omega
theorem order_Right (o : OrderT) : g_order_Right o = some (decide (ordP o)) := by
  simp only [g_order_Right, g_order_pending, g_order_begun, rec_New, Option.bind_some, cond_some]
  congr 1
  refine dec_of ?_
  unfold ordP pend
  by_cases hN : newP o.Id o.Account o.Symbol o.Side o.Qty o.Price
  · by_cases p1 : o.Phase = 1
    · simp [hN, p1]; split <;> omega
    by_cases p2 : o.Phase = 2
    · simp [hN, p2]; split <;> omega
    by_cases p3 : o.Phase = 3
    · simp [hN, p3]; split <;> omega
    have b1 : (o.Phase == 1) = false := by simp [p1]
    have b2 : (o.Phase == 2) = false := by simp [p2]
    have b3 : (o.Phase == 3) = false := by simp [p3]
    simp [p1, p2, p3, b1, b2, b3]
  · simp [hN]
def doneF (o : OrderT) : OrderT := ⟨o.Id, o.Account, o.Symbol, o.Side, o.Qty, o.Price, o.Filled, 3, 0, 0, o.Version, o.Asked⟩
def takeF (o : OrderT) (n : NoteT) : OrderT × Int :=
  if ¬ (ordP o ∧ evP n ∧ n.Order = o.Id) then (o, 1) else
  if o.Phase = 1 then (if n.What = 1 then (⟨o.Id, o.Account, o.Symbol, o.Side, o.Qty, o.Price, o.Filled, 2, o.NewQty, o.NewPrice, o.Version, o.Asked⟩, 0) else if n.What = 2 then (doneF o, 0) else (o, 8))
  else if o.Phase = 2 then
    if n.What = 3 then (if n.Qty > o.Qty - o.Filled then (o, 8) else if o.Filled + n.Qty < o.Qty then (⟨o.Id, o.Account, o.Symbol, o.Side, o.Qty, o.Price, o.Filled + n.Qty, o.Phase, o.NewQty, o.NewPrice, o.Version, o.Asked⟩, 0)
      else (⟨o.Id, o.Account, o.Symbol, o.Side, o.Qty, o.Price, o.Filled + n.Qty, 3, 0, 0, o.Version, o.Asked⟩, 0))
    else if n.What = 4 then (doneF o, 0)
    else if n.What = 5 then (if pend o ∧ n.Qty = o.NewQty ∧ n.Price = o.NewPrice ∧ n.Qty > o.Filled then (⟨o.Id, o.Account, o.Symbol, o.Side, n.Qty, n.Price, o.Filled, o.Phase, 0, 0, o.Version, o.Asked⟩, 0) else (o, 8))
    else if n.What = 6 then (if pend o then (⟨o.Id, o.Account, o.Symbol, o.Side, o.Qty, o.Price, o.Filled, o.Phase, 0, 0, o.Version, o.Asked⟩, 0) else (o, 8))
    else (o, 8)
  else (o, 8)

theorem order_Take (o : OrderT) (n : NoteT) (ro : R_OrderT o) (rn : R_NoteT n) : g_order_Take o n = some (takeF o n) := by
  unfold takeF g_order_Take
  by_cases hP : ordP o ∧ evP n ∧ n.Order = o.Id
  · obtain ⟨h1, h2, h3⟩ := hP
    simp only [order_Right, h1, g_rec_OfNote, rec_Event, h2, Option.bind_some, decide_true, Bool.not_true, cond_false]
    simp only [h3, bne_self_eq_false, Bool.or_self, and_self, not_true, if_false, cond_false]
    obtain ⟨_, hf1, hf2, _⟩ := id h1
    obtain ⟨_, _, _, ev⟩ := id h2
    unfold R_OrderT R_i64 at ro
    unfold R_NoteT R_i64 at rn
    have w1 : IntKind.wrap .i64 (o.Qty - o.Filled) = o.Qty - o.Filled := wrap_of (by omega) (by omega)
    by_cases p1 : o.Phase = 1
    · simp only [p1, beq_self_eq_true, cond_true, if_true, g_order_sent, g_order_done, g_order_settled]
      by_cases w1 : n.What = 1
      · simp [w1]
      by_cases w2 : n.What = 2
      · simp [w2, doneF]
      have b1 : (n.What == 1) = false := by simp [w1]
      have b2 : (n.What == 2) = false := by simp [w2]
      simp [w1, w2, b1, b2]
    by_cases p2 : o.Phase = 2
    · have b1 : (o.Phase == 1) = false := by simp [p1]
      simp only [b1, p2, beq_self_eq_true, cond_true, cond_false, if_true, g_order_live, g_order_done, g_order_settled, g_order_pending, w1]
      rw [if_neg (by decide)]
      by_cases w3 : n.What = 3
      · simp only [w3, beq_self_eq_true, cond_true, if_true]
        by_cases q : n.Qty > o.Qty - o.Filled
        · simp [q]
        · have w2 : IntKind.wrap .i64 (o.Filled + n.Qty) = o.Filled + n.Qty := wrap_of (by omega) (by omega)
          rw [w2]
          by_cases q2 : o.Filled + n.Qty < o.Qty
          · simp [q, q2]
          · simp [q, q2]
      by_cases w4 : n.What = 4
      · simp [w4, doneF]
      by_cases w5 : n.What = 5
      · simp only [w5]
        by_cases q : pend o ∧ n.Qty = o.NewQty ∧ n.Price = o.NewPrice ∧ n.Qty > o.Filled
        · rw [if_pos q]
          unfold pend at q
          have : ((((!(o.NewQty != 0 || o.NewPrice != 0)) || n.Qty != o.NewQty) || n.Price != o.NewPrice) || decide (n.Qty ≤ o.Filled)) = false := by simp; omega
          simp only [Option.bind_some, this]
          simp
        · rw [if_neg q]
          unfold pend at q
          have : ((((!(o.NewQty != 0 || o.NewPrice != 0)) || n.Qty != o.NewQty) || n.Price != o.NewPrice) || decide (n.Qty ≤ o.Filled)) = true := by simp; omega
          simp only [Option.bind_some, this]
          simp
      by_cases w6 : n.What = 6
      · simp only [w6]
        by_cases q : pend o
        · rw [if_pos q]
          unfold pend at q
          have : (o.NewQty != 0 || o.NewPrice != 0) = true := by simp; omega
          simp only [Option.bind_some, this]
          simp
        · rw [if_neg q]
          unfold pend at q
          have : (o.NewQty != 0 || o.NewPrice != 0) = false := by simp; omega
          simp only [Option.bind_some, this]
          simp
      have b3 : (n.What == 3) = false := by simp [w3]
      have b4 : (n.What == 4) = false := by simp [w4]
      have b5 : (n.What == 5) = false := by simp [w5]
      have b6 : (n.What == 6) = false := by simp [w6]
      simp [w3, w4, w5, w6, b3, b4, b5, b6]
    have b1 : (o.Phase == 1) = false := by simp [p1]
    have b2 : (o.Phase == 2) = false := by simp [p2]
    simp [p1, p2, b1, b2]
  · rw [if_pos hP]
    simp only [order_Right, g_rec_OfNote, rec_Event, Option.bind_some, cond_some]
    have : ((bif !decide (ordP o) then true else !decide (evP n)) || n.Order != o.Id) = true := by
      by_cases h1 : ordP o
      · by_cases h2 : evP n
        · have : ¬ n.Order = o.Id := fun h3 => hP ⟨h1, h2, h3⟩
          simp [h1, h2, this]
        · simp [h1, h2]
      · simp [h1]
    rw [this]
    rfl


theorem order_awake : g_snafflelaw07_awake = some true := by kernel_rfl

theorem order_Open (o : OrderT) (ro : R_OrderT o) : g_order_Open o = some (if ordP o ∧ o.Phase ≠ 3 then (if o.NewQty > o.Qty then o.NewQty else o.Qty) - o.Filled else 0) := by
  unfold g_order_Open g_num_Max
  rw [order_Right]
  simp only [Option.bind_some]
  by_cases h : ordP o
  · by_cases p : o.Phase = 3
    · simp [h, p]
    · obtain ⟨_, h1, h2, _, h4, _⟩ := id h
      unfold pend at h4
      unfold R_OrderT R_i64 at ro
      rw [if_pos (show ordP o ∧ o.Phase ≠ 3 from ⟨h, p⟩)]
      have b : (o.Phase == 3) = false := by simp [p]
      simp only [h, b, decide_true, Bool.not_true, Bool.or_self, cond_false]
      congr 1
      apply wrap_of <;> split <;> omega
  · simp [h]

theorem rec_Right1 (r : RecT) (h : r.Kind = 1) : g_rec_Right r = some (decide (newP r.Order r.Account r.Symbol r.Side r.Qty r.Price ∧ r.Long = 0 ∧ r.Short = 0 ∧ r.Open = 0 ∧ r.On = false ∧ r.Seq = 0 ∧ r.What = 0)) := by
  simp only [g_rec_Right, g_rec_fields, g_rec_known, g_rec_below, g_rec_sized, h, beq_self_eq_true, cond_true, Option.bind_some, Bool.and_self, Bool.not_true, cond_false, Bool.true_and, cond_some]
  congr 1
  refine dec_of ?_
  unfold newP idP
  simp
  by_cases h1 : r.Long = 0 ∧ r.Short = 0 ∧ r.Open = 0 ∧ r.On = false ∧ r.Seq = 0 ∧ r.What = 0
  · obtain ⟨e1, e2, e3, e4, e5, e6⟩ := h1
    simp [e1, e2, e3, e4, e5, e6]
    try omega
  · simp only [h1]
    simp
    try (intro e1 e2 e3 e4 e5 e6; exact absurd ⟨e1, e2, e3, e4, e5, e6⟩ h1)



def nowW (o : OrderT) : Int := (o.Qty - o.Filled) * o.Price
def thenW (o : OrderT) : Int := (o.NewQty - o.Filled) * o.NewPrice
def worthF (o : OrderT) : Int × Int :=
  if ¬ ordP o then (0, 1) else if o.Phase = 3 then (0, 0) else if ¬ fit (nowW o) then (0, 3) else if o.NewQty ≤ o.Filled then (nowW o, 0) else if ¬ fit (thenW o) then (0, 3) else (if thenW o > nowW o then thenW o else nowW o, 0)
def openF (o : OrderT) : Int := if ordP o ∧ o.Phase ≠ 3 then (if o.NewQty > o.Qty then o.NewQty else o.Qty) - o.Filled else 0

theorem order_Worth (o : OrderT) (ro : R_OrderT o) : g_order_Worth o = some (worthF o) := by
  unfold g_order_Worth worthF
  rw [order_Right]
  simp only [Option.bind_some]
  by_cases h : ordP o
  · obtain ⟨_, h1, h2, _, h4, _⟩ := id h
    obtain ⟨_, _, _, _, rq, rp, rf, _, rnq, rnp, _⟩ := id ro
    by_cases p : o.Phase = 3
    · simp [h, p]
    · have b : (o.Phase == 3) = false := by simp [p]
      have wl : IntKind.wrap .i64 (o.Qty - o.Filled) = o.Qty - o.Filled := by unfold R_i64 at rq rf; exact wrap_of (by omega) (by omega)
      have rl : R_i64 (o.Qty - o.Filled) := by unfold R_i64 at rq rf ⊢; omega
      simp only [h, b, decide_true, Bool.not_true, cond_false, not_true, if_false, p, wl, num_Mul _ _ rl rp, Option.bind_some]
      show (bif ((if fit (nowW o) then (nowW o, (0 : Int)) else (0, 3)).2 != 0 || decide (o.NewQty ≤ o.Filled)) then _ else _) = _
      by_cases f1 : fit (nowW o)
      · by_cases hn : o.NewQty ≤ o.Filled
        · have f1' : fit ((o.Qty - o.Filled) * o.Price) := f1
          simp [f1, f1', hn, nowW]
        · have f1' : fit ((o.Qty - o.Filled) * o.Price) := f1
          have wn : IntKind.wrap .i64 (o.NewQty - o.Filled) = o.NewQty - o.Filled := by unfold R_i64 at rnq rf; exact wrap_of (by omega) (by omega)
          have rn : R_i64 (o.NewQty - o.Filled) := by unfold R_i64 at rnq rf ⊢; omega
          simp only [f1, f1', if_true, bne_self_eq_false, Bool.false_or, hn, decide_false, cond_false, wn, num_Mul _ _ rn rnp, Option.bind_some, not_true, if_false]
          by_cases f2 : fit (thenW o)
          · have f2' : fit ((o.NewQty - o.Filled) * o.NewPrice) := f2
            simp only [f2, f2', if_true, bne_self_eq_false, cond_false, g_num_Max, Option.bind_some, not_true, if_false]
            rfl
          · have f2' : ¬ fit ((o.NewQty - o.Filled) * o.NewPrice) := f2
            simp [f2, f2']
      · have f1' : ¬ fit ((o.Qty - o.Filled) * o.Price) := f1
        simp [f1, f1']
  · simp [h]

noncomputable def lessB (o p : OrderT) : Option Bool := (Option.bind ((Option.bind (g_order_Right p) fun v12 => (bif (!v12) then (some true) else (bif (o.Phase == 3) then (some true) else (bif (decide (p.Phase < o.Phase)) then (some true) else (bif (p.Id != o.Id) then (some true) else (bif (p.Account != o.Account) then (some true) else (bif (p.Symbol != o.Symbol) then (some true) else (bif (p.Side != o.Side) then (some true) else (bif (decide (p.Filled < o.Filled)) then (some true) else (bif (p.Version != o.Version) then (some true) else (bif (p.Asked != o.Asked) then (some true) else (Option.bind (g_order_Open p) fun v23 => (Option.bind (g_order_Open o) fun v24 => (some (decide (v23 > v24)))))))))))))))) : Option (Bool)) (fun (j10 : Bool) => (bif j10 then (some false) else (Option.bind (g_order_Worth o) fun v25 => (Option.bind (g_order_Worth p) fun v26 => (some ((v25.2 != 0) || ((v26.2 == 0) && (decide (v26.1 ≤ v25.1))))))))))

theorem order_OpenF (o : OrderT) (ro : R_OrderT o) : g_order_Open o = some (openF o) := order_Open o ro

theorem openF_of {o : OrderT} (hO : ordP o) (h : o.Phase ≠ 3) : openF o = (if o.NewQty > o.Qty then o.NewQty else o.Qty) - o.Filled := by
  unfold openF; rw [if_pos ⟨hO, h⟩]

theorem less_fin {o p : OrderT} (ro : R_OrderT o) (rp : R_OrderT p) (hO : ordP o) (hP : ordP p) (h3 : ¬ o.Phase = 3) (ph : o.Phase ≤ p.Phase) (e1 : p.Id = o.Id) (e2 : p.Account = o.Account) (e3 : p.Symbol = o.Symbol) (e4 : p.Side = o.Side) (hf : o.Filled ≤ p.Filled) (e5 : p.Version = o.Version) (e6 : p.Asked = o.Asked)
    (hop : openF p ≤ openF o) (hw : (worthF o).2 = 0 → (worthF p).2 = 0 ∧ (worthF p).1 ≤ (worthF o).1) : lessB o p = some true := by
  unfold lessB
  rw [order_Right, order_OpenF p rp, order_OpenF o ro, order_Worth o ro, order_Worth p rp]
  have hop' : ¬ openF p > openF o := by omega
  have b3 : (o.Phase == 3) = false := by simp [h3]
  have bp : decide (p.Phase < o.Phase) = false := by simp; omega
  have bf : decide (p.Filled < o.Filled) = false := by simp; omega
  simp only [Option.bind_some, hP, decide_true, Bool.not_true, cond_false, b3, bp, bf, e1, e2, e3, e4, e5, e6, bne_self_eq_false]
  simp only [decide_eq_false hop', cond_false]
  by_cases hz : (worthF o).2 = 0
  · obtain ⟨h1, h2⟩ := hw hz
    simp [hz, h1, h2]
  · simp [hz]

theorem worth_nonneg (o : OrderT) : 0 ≤ (worthF o).1 := by
  unfold worthF
  split
  · exact Int.le_refl _
  rename_i h
  simp only [Classical.not_not] at h
  obtain ⟨⟨_, _, _, _, _, _, _, hp⟩, h1, h2, _⟩ := h
  have hn : 0 ≤ nowW o := Int.mul_nonneg (by omega) (by omega)
  split
  · exact Int.le_refl _
  split
  · exact Int.le_refl _
  split
  · exact hn
  split
  · exact Int.le_refl _
  · simp only; split <;> omega
theorem open_nonneg (o : OrderT) : 0 ≤ openF o := by
  unfold openF
  split
  · rename_i h
    obtain ⟨_, _, h2, _⟩ := h.1
    split <;> omega
  · omega

/-- What is done has nothing more. -/
theorem done_less {o p : OrderT} (hP : ordP p) (hp : p.Phase = 3) : openF p ≤ openF o ∧ ((worthF o).2 = 0 → (worthF p).2 = 0 ∧ (worthF p).1 ≤ (worthF o).1) := by
  have h1 : worthF p = (0, 0) := by unfold worthF; simp [hP, hp]
  have h2 : openF p = 0 := by unfold openF; simp [hp]
  rw [h1, h2]
  exact ⟨open_nonneg o, fun _ => ⟨rfl, worth_nonneg o⟩⟩

theorem keep_less {o p : OrderT} (hO : ordP o) (hP : ordP p) (h3 : ¬ o.Phase = 3) (hp3 : ¬ p.Phase = 3) (h1 : openF p ≤ openF o) (hq : nowW p ≤ nowW o) (hn : p.NewQty > p.Filled → o.NewQty > o.Filled ∧ thenW p ≤ thenW o) :
    (worthF o).2 = 0 → (worthF p).2 = 0 ∧ (worthF p).1 ≤ (worthF o).1 := by
  have n1 : 0 ≤ nowW p := by obtain ⟨⟨_, _, _, _, _, _, _, hp⟩, h1, h2, _⟩ := hP; exact Int.mul_nonneg (by omega) (by omega)
  have n2 : p.NewQty > p.Filled → 0 ≤ thenW p := by
    intro h
    obtain ⟨_, h1, h2, _, h4, _⟩ := hP
    unfold pend at h4
    exact Int.mul_nonneg (by omega) (by omega)
  unfold worthF
  simp only [hO, hP, not_true, if_false, h3, hp3]
  intro h
  unfold fit at *
  by_cases f1 : -9223372036854775808 ≤ nowW o ∧ nowW o < 9223372036854775808
  · simp only [f1, and_self, not_true, if_false] at h ⊢
    have g1 : -9223372036854775808 ≤ nowW p ∧ nowW p < 9223372036854775808 := by omega
    simp only [g1, and_self, not_true, if_false]
    by_cases c : o.NewQty ≤ o.Filled
    · have c' : p.NewQty ≤ p.Filled := by
        by_cases q : p.NewQty ≤ p.Filled
        · exact q
        · have := (hn (by omega)).1; omega
      simp [c, c', hq]
    · simp only [c, if_false] at h ⊢
      by_cases f2 : -9223372036854775808 ≤ thenW o ∧ thenW o < 9223372036854775808
      · simp only [f2, and_self, not_true, if_false]
        by_cases c' : p.NewQty ≤ p.Filled
        · simp only [c', if_true, true_and]
          split <;> omega
        · have h5 := (hn (by omega)).2
          have h6 := n2 (by omega)
          have g2 : -9223372036854775808 ≤ thenW p ∧ thenW p < 9223372036854775808 := by omega
          simp only [c', if_false, g2, and_self, not_true, true_and]
          split <;> split <;> omega
      · simp [f2] at h
  · simp [f1] at h



theorem ord_Add {a b : Int} (ha : R_i64 a) (hb : R_i64 b) : g_num_Add a b = some (if fit (a + b) then (a + b, 0) else (0, 3)) := by
  unfold g_num_Add
  unfold R_i64 at ha hb
  have h := IntKind.wrap_i64 (a + b)
  by_cases h1 : fit (a + b)
  · have h2 := h1
    unfold fit at h2
    rw [wrap_of h2.1 h2.2, if_pos h1]
    have : ((decide (a + b > a) != decide (b > 0)) && b != 0) = false := by
      by_cases hb : b > 0
      · simp [hb]; omega
      · simp [hb]; omega
    rw [this]; rfl
  · have h2 := h1
    unfold fit at h2
    rw [if_neg h1]
    have : ((decide (IntKind.wrap .i64 (a + b) > a) != decide (b > 0)) && b != 0) = true := by
      simp only [Bool.and_eq_true, bne_iff_ne, ne_eq, decide_eq_decide]
      omega
    rw [this]; rfl

def changeF (o : OrderT) (q p : Int) : OrderT × Int :=
  if ordP o ∧ 1 ≤ q ∧ 1 ≤ p ∧ fit (o.Version + 1) then (if o.Phase = 2 ∧ ¬ pend o ∧ o.Asked = false then (⟨o.Id, o.Account, o.Symbol, o.Side, o.Qty, o.Price, o.Filled, o.Phase, q, p, o.Version + 1, o.Asked⟩, 0) else (o, 8)) else (o, 1)

theorem order_Change (o : OrderT) (q p : Int) (ro : R_OrderT o) : g_order_Change o q p = some (changeF o q p) := by
  unfold g_order_Change changeF
  have rv : R_i64 o.Version := ro.2.2.2.2.2.2.2.2.2.2.1
  rw [ord_Add rv (show R_i64 1 by unfold R_i64; omega), order_Right]
  simp only [Option.bind_some]
  by_cases h : ordP o ∧ 1 ≤ q ∧ 1 ≤ p ∧ fit (o.Version + 1)
  · rw [if_pos h]
    obtain ⟨h1, h2, h3, h4⟩ := h
    have b2 : decide (q < 1) = false := by simp; omega
    have b3 : decide (p < 1) = false := by simp; omega
    have wv : IntKind.wrap .i64 (o.Version + 1) = o.Version + 1 := by unfold fit at h4; exact wrap_of h4.1 h4.2
    simp only [h1, decide_true, Bool.not_true, cond_false, b2, b3, h4, if_true, bne_self_eq_false, Option.bind_some, g_order_pending, wv]
    by_cases k : o.Phase = 2 ∧ ¬ pend o ∧ o.Asked = false
    · rw [if_pos k]
      obtain ⟨k1, k2, k3⟩ := k
      unfold pend at k2
      have c : (o.NewQty != 0 || o.NewPrice != 0) = false := by simp; omega
      simp [k1, k3, c]
    · rw [if_neg k]
      by_cases k1 : o.Phase = 2
      · have d : (o.Phase != 2) = false := by simp [k1]
        simp only [d, cond_false, Option.bind_some]
        by_cases k2 : pend o
        · have c : (o.NewQty != 0 || o.NewPrice != 0) = true := by unfold pend at k2; simp; omega
          simp [c]
        · have c : (o.NewQty != 0 || o.NewPrice != 0) = false := by unfold pend at k2; simp; omega
          have k3 : o.Asked = true := by
            cases e : o.Asked
            · exact absurd ⟨k1, k2, e⟩ k
            · rfl
          simp [c, k3]
      · have d : (o.Phase != 2) = true := by simp [k1]
        simp [d]
  · rw [if_neg h]
    by_cases h1 : ordP o
    · by_cases h2 : q < 1
      · simp [h1, h2]
      · by_cases h3 : p < 1
        · simp [h1, h2, h3]
        · have h4 : ¬ fit (o.Version + 1) := fun h4 => h ⟨h1, by omega, by omega, h4⟩
          simp [h1, h2, h3, h4]
    · simp [h1]



theorem ref06_New (id ac sy sd q p : Int) : g_snaffleref06_Right ⟨1, id, ac, sy, sd, q, p, 0, 0, 0, false, 0, 0⟩ = some (decide (newP id ac sy sd q p)) := by
  simp only [g_snaffleref06_Right, g_snaffleref06_id, beq_self_eq_true, cond_true, Option.bind_some, Bool.and_self, Bool.not_true, cond_false, Bool.true_and, cond_some, Bool.and_true]
  congr 1
  refine dec_of ?_
  unfold newP idP
  simp
  omega

theorem ref06_Event (n : NoteT) : g_snaffleref06_Right ⟨6, n.Order, 0, 0, 0, n.Qty, n.Price, 0, 0, 0, false, n.Seq, n.What⟩ = some (decide (evP n)) := by
  have k1 : ((6 : Int) == 1) = false := rfl
  have k2 : ((6 : Int) == 2) = false := rfl
  have k3 : ((6 : Int) == 3) = false := rfl
  have k4 : ((6 : Int) == 4) = false := rfl
  have k5 : ((6 : Int) == 5) = false := rfl
  simp only [g_snaffleref06_Right, g_snaffleref06_id, k1, k2, k3, k4, k5, beq_self_eq_true, cond_true, Option.bind_some, Bool.and_self, Bool.not_true, cond_false, Bool.true_and, Bool.and_true, cond_some]
  congr 1
  refine dec_of ?_
  unfold evP idP
  by_cases w1 : n.What = 1
  · simp [w1]; try omega
  by_cases w2 : n.What = 2
  · simp [w2]; try omega
  by_cases w3 : n.What = 3
  · simp [w3]; try omega
  by_cases w4 : n.What = 4
  · simp [w4]; try omega
  by_cases w5 : n.What = 5
  · simp [w5]; try omega
  by_cases w6 : n.What = 6
  · simp [w6]; try omega
  have b3 : (n.What == 3) = false := by simp [w3]
  have b5 : (n.What == 5) = false := by simp [w5]
  simp [w1, w2, w3, w4, w5, w6, b3, b5]
  try omega

theorem ref07_Right (o : OrderT) : g_snaffleref07_Right o = some (decide (ordP o)) := by
  simp only [g_snaffleref07_Right, ref06_New, Option.bind_some, cond_some]
  congr 1
  refine dec_of ?_
  unfold ordP pend
  by_cases hN : newP o.Id o.Account o.Symbol o.Side o.Qty o.Price
  · by_cases p1 : o.Phase = 1
    · simp [hN, p1]; omega
    by_cases p2 : o.Phase = 2
    · simp [hN, p2]; omega
    have b1 : (o.Phase == 1) = false := by simp [p1]
    have b2 : (o.Phase == 2) = false := by simp [p2]
    simp [hN, p1, p2, b1, b2]; omega
  · simp [hN]



theorem ref06_Right1 (r : RecT) (h : r.Kind = 1) : g_snaffleref06_Right r = g_rec_Right r := by
  rw [rec_Right1 r h]
  simp only [g_snaffleref06_Right, g_snaffleref06_id, h, beq_self_eq_true, cond_true, Option.bind_some, cond_some]
  congr 1
  refine dec_of ?_
  unfold newP idP
  simp
  omega

theorem ref07_Change (o : OrderT) (q p : Int) (ro : R_OrderT o) : g_snaffleref07_Change o q p = some (changeF o q p) := by
  unfold g_snaffleref07_Change changeF
  rw [ref07_Right]
  simp only [Option.bind_some]
  have rv : R_i64 o.Version := ro.2.2.2.2.2.2.2.2.2.2.1
  unfold R_i64 at rv
  by_cases h : ordP o ∧ 1 ≤ q ∧ 1 ≤ p ∧ fit (o.Version + 1)
  · rw [if_pos h]
    obtain ⟨h1, h2, h3, h4⟩ := h
    have wv : IntKind.wrap .i64 (o.Version + 1) = o.Version + 1 := by unfold fit at h4; exact wrap_of h4.1 h4.2
    have c0 : (((!decide (ordP o) || decide (q < 1)) || decide (p < 1)) || o.Version == 9223372036854775807) = false := by
      unfold fit at h4; simp [h1]; omega
    rw [c0]
    simp only [cond_false, wv]
    obtain ⟨_, _, _, _, h5, _⟩ := h1
    by_cases k : o.Phase = 2 ∧ ¬ pend o ∧ o.Asked = false
    · rw [if_pos k]
      obtain ⟨k1, k2, k3⟩ := k
      unfold pend at k2
      have c : ((o.Phase != 2 || o.NewQty != 0) || o.Asked) = false := by simp [k1, k3]; omega
      rw [c]; rfl
    · rw [if_neg k]
      have c : ((o.Phase != 2 || o.NewQty != 0) || o.Asked) = true := by
        by_cases k1 : o.Phase = 2
        · by_cases k2 : pend o
          · have := h5 k2
            simp; omega
          · cases e : o.Asked
            · exact absurd ⟨k1, k2, e⟩ k
            · simp
        · simp [k1]
      rw [c]; rfl
  · rw [if_neg h]
    have c0 : (((!decide (ordP o) || decide (q < 1)) || decide (p < 1)) || o.Version == 9223372036854775807) = true := by
      by_cases h1 : ordP o
      · unfold fit at h
        simp [h1] at h ⊢; omega
      · simp [h1]
    rw [c0]; rfl

theorem ref07_End (o : OrderT) : g_snaffleref07_End o = g_order_End o := by
  unfold g_snaffleref07_End g_order_End
  rw [ref07_Right, order_Right]
  simp only [Option.bind_some]
  by_cases h : ordP o
  · cases e : o.Asked
    · by_cases k : o.Phase = 3
      · simp [h, k]
      · have b : (o.Phase == 3) = false := by simp [k]
        simp [h, b]
    · by_cases k : o.Phase = 3
      · simp [h, k]
      · have b : (o.Phase == 3) = false := by simp [k]
        simp [h, b]
  · simp [h]

theorem ref07_Open (o : OrderT) (ro : R_OrderT o) : g_snaffleref07_Open o = some (openF o) := by
  unfold g_snaffleref07_Open openF
  rw [ref07_Right]
  simp only [Option.bind_some]
  obtain ⟨_, _, _, _, rq, rp, rf, _, rnq, rnp, _⟩ := id ro
  unfold R_i64 at rq rf rnq
  by_cases h : ordP o
  · obtain ⟨_, h1, h2, _⟩ := id h
    by_cases k : o.Phase = 3
    · simp [h, k]
    · have b : (o.Phase == 3) = false := by simp [k]
      rw [if_pos ⟨h, k⟩]
      by_cases n : o.NewQty > o.Qty
      · have w : IntKind.wrap .i64 (o.NewQty - o.Filled) = o.NewQty - o.Filled := wrap_of (by omega) (by omega)
        simp [h, b, n, w]
      · have w : IntKind.wrap .i64 (o.Qty - o.Filled) = o.Qty - o.Filled := wrap_of (by omega) (by omega)
        simp [h, b, n, w]
  · simp [h]

theorem ref07_Worth (o : OrderT) (ro : R_OrderT o) : g_snaffleref07_Worth o = some (worthF o) := by
  unfold g_snaffleref07_Worth worthF
  rw [ref07_Right]
  simp only [Option.bind_some]
  by_cases h : ordP o
  · obtain ⟨_, h1, h2, _, h4, _⟩ := id h
    obtain ⟨_, _, _, _, rq, rp, rf, _, rnq, rnp, _⟩ := id ro
    by_cases p : o.Phase = 3
    · simp [h, p]
    · have b : (o.Phase == 3) = false := by simp [p]
      have wl : IntKind.wrap .i64 (o.Qty - o.Filled) = o.Qty - o.Filled := by unfold R_i64 at rq rf; exact wrap_of (by omega) (by omega)
      have rl : R_i64 (o.Qty - o.Filled) := by unfold R_i64 at rq rf ⊢; omega
      obtain ⟨d, hd, hd'⟩ := nr_mul (o.Qty - o.Filled) o.Price rl rp
      simp only [h, b, decide_true, Bool.not_true, cond_false, not_true, if_false, p, wl, hd, Option.bind_some]
      by_cases f1 : fit (nowW o)
      · have f1' : fit ((o.Qty - o.Filled) * o.Price) := f1
        have ed : d = nowW o := hd' f1'
        simp only [f1, f1', decide_true, Bool.not_true, cond_false, not_true, if_false, ed]
        by_cases hn : o.NewQty ≤ o.Filled
        · have g : ¬ o.NewQty > o.Filled := by omega
          simp only [hn, g, decide_false, cond_false, Option.bind_some, if_true]
          rfl
        · have g : o.NewQty > o.Filled := by omega
          have wn : IntKind.wrap .i64 (o.NewQty - o.Filled) = o.NewQty - o.Filled := by unfold R_i64 at rnq rf; exact wrap_of (by omega) (by omega)
          have rn : R_i64 (o.NewQty - o.Filled) := by unfold R_i64 at rnq rf ⊢; omega
          obtain ⟨d2, hd2, hd2'⟩ := nr_mul (o.NewQty - o.Filled) o.NewPrice rn rnp
          simp only [g, decide_true, cond_true, wn, hd2, Option.bind_some, hn, if_false]
          by_cases f2 : fit (thenW o)
          · have f2' : fit ((o.NewQty - o.Filled) * o.NewPrice) := f2
            have ed2 : d2 = thenW o := hd2' f2'
            simp only [f2, f2', decide_true, Bool.not_true, cond_false, not_true, if_false, ed2]
            by_cases l : thenW o > nowW o
            · simp only [l, decide_true, cond_true, Option.bind_some, if_true]; rfl
            · simp only [l, decide_false, cond_false, Option.bind_some, if_false]; rfl
          · have f2' : ¬ fit ((o.NewQty - o.Filled) * o.NewPrice) := f2
            simp only [f2, f2', decide_false, Bool.not_false, cond_true, Option.bind_some, not_false_iff, if_true]; rfl
      · have f1' : ¬ fit ((o.Qty - o.Filled) * o.Price) := f1
        simp [f1, f1']
  · simp [h]

theorem ref07_Begin (r : RecT) (rr : R_RecT r) : ∃ o e b, g_order_Begin r = some (o, e) ∧ g_snaffleref07_Begin r = some (o, b) ∧ ((b = true ∧ e = 0) ∨ (b = false ∧ e = 1)) := by
  unfold g_snaffleref07_Begin g_order_Begin
  by_cases hk : r.Kind = 1
  · rw [ref06_Right1 r hk, rec_Right1 r hk]
    have bk : (r.Kind != 1) = false := by simp [hk]
    simp only [bk, cond_false, Option.bind_some]
    by_cases q : newP r.Order r.Account r.Symbol r.Side r.Qty r.Price ∧ r.Long = 0 ∧ r.Short = 0 ∧ r.Open = 0 ∧ r.On = false ∧ r.Seq = 0 ∧ r.What = 0
    · simp [q]
    · simp only [q, decide_false, Bool.not_false, cond_true]; exact ⟨_, _, _, rfl, rfl, .inr ⟨rfl, rfl⟩⟩
  · have bk : (r.Kind != 1) = true := by simp [hk]
    simp only [bk, cond_true, Option.bind_some]
    exact ⟨_, _, _, rfl, rfl, .inr ⟨rfl, rfl⟩⟩


theorem ref07_Take (o : OrderT) (n : NoteT) (ro : R_OrderT o) (rn : R_NoteT n) : g_snaffleref07_Take o n = some (takeF o n) := by
  unfold takeF g_snaffleref07_Take
  by_cases hP : ordP o ∧ evP n ∧ n.Order = o.Id
  · obtain ⟨h1, h2, h3⟩ := hP
    have hb : (n.Order != o.Id) = false := by simp [h3]
    simp only [ref07_Right, h1, g_snaffleref06_OfNote, ref06_Event, h2, Option.bind_some, decide_true, Bool.not_true, cond_false, hb, Bool.or_self]
    simp only [h3, and_self, not_true, if_false]
    obtain ⟨_, hf1, hf2, _, hp5, _⟩ := id h1
    obtain ⟨_, _, _, ev⟩ := id h2
    unfold R_OrderT R_i64 at ro
    unfold R_NoteT R_i64 at rn
    have w1 : IntKind.wrap .i64 (o.Qty - o.Filled) = o.Qty - o.Filled := wrap_of (by omega) (by omega)
    rw [w1]
    by_cases p1 : o.Phase = 1
    · by_cases w1 : n.What = 1
      · simp [p1, w1]
      have b1 : (n.What == 1) = false := by simp [w1]
      by_cases w2 : n.What = 2
      · simp [p1, w2, doneF, outE]
      have b2 : (n.What == 2) = false := by simp [w2]
      simp [p1, w1, w2, b1, b2, outE]
    have c1 : (o.Phase == 1) = false := by simp [p1]
    by_cases p2 : o.Phase = 2
    · simp only [c1, p2, show ((2 : Int) == 1) = false from rfl, beq_self_eq_true, Bool.false_and, Bool.true_and, cond_false, Bool.false_or]
      rw [if_neg (by decide), if_pos trivial]
      have hpp : pend o ↔ o.NewQty > 0 := by
        constructor
        · intro h; have := hp5 h; omega
        · intro h; unfold pend; omega
      by_cases w3 : n.What = 3
      · have b4 : (n.What == 4) = false := by simp [w3]
        have b5 : (n.What == 5) = false := by simp [w3]
        have b6 : (n.What == 6) = false := by simp [w3]
        by_cases q : n.Qty > o.Qty - o.Filled
        · have q' : ¬ n.Qty ≤ o.Qty - o.Filled := by omega
          simp [w3, q, q', outE]
        · have q' : n.Qty ≤ o.Qty - o.Filled := by omega
          have w2 : IntKind.wrap .i64 (o.Filled + n.Qty) = o.Filled + n.Qty := wrap_of (by omega) (by omega)
          rw [w2]
          by_cases q2 : o.Filled + n.Qty < o.Qty
          · have q3 : n.Qty < o.Qty - o.Filled := by omega
            simp [w3, q, q', q2, q3, outE]
          · have q3 : ¬ n.Qty < o.Qty - o.Filled := by omega
            simp [w3, q, q', q2, q3, outE]
      have b3 : (n.What == 3) = false := by simp [w3]
      by_cases w4 : n.What = 4
      · simp [w4, doneF, outE]
      have b4 : (n.What == 4) = false := by simp [w4]
      by_cases w5 : n.What = 5
      · have b6 : (n.What == 6) = false := by simp [w5]
        by_cases q : pend o ∧ n.Qty = o.NewQty ∧ n.Price = o.NewPrice ∧ n.Qty > o.Filled
        · have c : ((((decide (o.NewQty > 0) && n.What == 5) && n.Qty == o.NewQty) && n.Price == o.NewPrice) && decide (n.Qty > o.Filled)) = true := by
            have := hpp.1 q.1
            simp [w5]; omega
          rw [if_neg (by omega), if_neg (by omega), if_pos w5, if_pos q]
          simp only [b3, b4, b6, Bool.and_false, Bool.false_and, cond_false, Option.bind_some, outE, c, cond_true]
        · have c : ((((decide (o.NewQty > 0) && n.What == 5) && n.Qty == o.NewQty) && n.Price == o.NewPrice) && decide (n.Qty > o.Filled)) = false := by
            rw [hpp] at q
            simp [w5]; omega
          rw [if_neg (by omega), if_neg (by omega), if_pos w5, if_neg q]
          simp only [b3, b4, b6, Bool.and_false, Bool.false_and, cond_false, Option.bind_some, outE, c]
      have b5 : (n.What == 5) = false := by simp [w5]
      by_cases w6 : n.What = 6
      · by_cases q : pend o
        · have c : (decide (o.NewQty > 0) && n.What == 6) = true := by
            have := hpp.1 q
            simp [w6]; omega
          rw [if_neg (by omega), if_neg (by omega), if_neg (by omega), if_pos w6, if_pos q]
          simp only [b3, b4, b5, Bool.and_false, Bool.false_and, cond_false, Option.bind_some, outE, c, cond_true]
        · have c : (decide (o.NewQty > 0) && n.What == 6) = false := by
            rw [hpp] at q
            simp [w6]; omega
          rw [if_neg (by omega), if_neg (by omega), if_neg (by omega), if_pos w6, if_neg q]
          simp only [b3, b4, b5, Bool.and_false, Bool.false_and, cond_false, Option.bind_some, outE, c]
      have b6 : (n.What == 6) = false := by simp [w6]
      rw [if_neg w3, if_neg w4, if_neg w5, if_neg w6]
      simp only [b3, b4, b5, b6, Bool.and_false, Bool.false_and, cond_false, Option.bind_some, outE]
    have c2 : (o.Phase == 2) = false := by simp [p2]
    rw [if_neg p1, if_neg p2]
    simp only [c1, c2, Bool.false_and, Bool.or_self, cond_false, Option.bind_some, outE]
  · rw [if_pos hP]
    simp only [ref07_Right, Option.bind_some, g_snaffleref06_OfNote, ref06_Event]
    by_cases h1 : ordP o
    · by_cases h2 : evP n
      · have h3 : ¬ n.Order = o.Id := fun h3 => hP ⟨h1, h2, h3⟩
        have hb : (n.Order != o.Id) = true := by simp [h3]
        simp [h1, h2, hb]
      · simp [h1, h2]
    · simp [h1]

theorem order_EndS (o : OrderT) : ∃ x, g_order_End o = some x := by
  unfold g_order_End
  rw [order_Right]
  simp only [Option.bind_some]
  by_cases h : ordP o
  · by_cases k : o.Phase = 3
    · exact ⟨_, by simp [h, k]; rfl⟩
    · have b : (o.Phase == 3) = false := by simp [k]
      cases e : o.Asked
      · exact ⟨_, by simp [h, b]; rfl⟩
      · exact ⟨_, by simp [h, b]; rfl⟩
  · exact ⟨_, by simp [h]; rfl⟩

theorem pure_g_snafflelaw07_OrderRight (o : OrderT) (r : RecT) (n : NoteT) (q p : Int) (ro : R_OrderT o) (rr : R_RecT r) (rn : R_NoteT n) (rq : R_i64 q) (rp : R_i64 p) : g_snafflelaw07_OrderRight o r n q p = some true := by
  unfold g_snafflelaw07_OrderRight
  obtain ⟨b, e, c, h1, h2, h3⟩ := ref07_Begin r rr
  obtain ⟨x, hx⟩ := order_EndS o
  rw [order_awake, h1, h2, order_Right, ref07_Right, order_Take o n ro rn, ref07_Take o n ro rn, order_Change o q p ro, ref07_Change o q p ro, ref07_End, hx, order_Worth o ro, ref07_Worth o ro, order_OpenF o ro, ref07_Open o ro]
  simp only [Option.bind_some, Bool.not_true, cond_false, bne_self_eq_false, beq_self_eq_true, Bool.and_self, Bool.or_self, cond_true]
  rcases h3 with ⟨rfl, rfl⟩ | ⟨rfl, rfl⟩ <;> simp
end Go.AI
