/- Sums, differences and products of numbers. -/
import Derived.Test.YtgpnkkhfnljfmaaL
import Derived.Test.YtgpnkkhfnljfmaaXBase
namespace Go.AI
def R_i64 (n : Int) : Prop := -9223372036854775808 ≤ n ∧ n < 9223372036854775808
theorem two32 : (2 : Int) ^ 32 = 4294967296 := rfl
theorem wrap_of {n : Int} (h0 : -9223372036854775808 ≤ n) (h1 : n < 9223372036854775808) : IntKind.i64.wrap n = n := wrap_i64_in h0 h1
def fit (n : Int) : Prop := -9223372036854775808 ≤ n ∧ n < 9223372036854775808
instance (n : Int) : Decidable (fit n) := by unfold fit; infer_instance
theorem num_Add {a b : Int} (ha : R_i64 a) (hb : R_i64 b) : g_num_Add (a, (b, ())) = some (if fit (a + b) then (a + b, (0, ())) else (0, (3, ()))) := by
  unfold g_num_Add
  unfold R_i64 at ha hb
  have h := IntKind.wrap_i64 (a + b)
  by_cases h1 : fit (a + b)
  · have h2 := h1
    unfold fit at h2
    rw [wrap_of h2.1 h2.2, if_pos h1]
    have : ((decide (a + b > a) != decide (b > 0)) && b != 0) = false := by
      by_cases hb : b > 0
      · simp [hb]; omega
      · simp [hb]; omega
    rw [this]; rfl
  · have h2 := h1
    unfold fit at h2
    rw [if_neg h1]
    have : ((decide (IntKind.wrap .i64 (a + b) > a) != decide (b > 0)) && b != 0) = true := by
      simp only [Bool.and_eq_true, bne_iff_ne, ne_eq, decide_eq_decide]
      omega
    rw [this]; rfl
theorem ref01_Add {a b : Int} (ha : R_i64 a) (hb : R_i64 b) : g_ref01_Add (a, (b, ())) = some (if fit (a + b) then (a + b, (true, ())) else (0, (false, ()))) := by
  unfold g_ref01_Add
  unfold R_i64 at ha hb
  have h := IntKind.wrap_i64 (9223372036854775807 - b)
  have h' := IntKind.wrap_i64 (-9223372036854775808 - b)
  by_cases h1 : fit (a + b)
  · have h2 := h1
    unfold fit at h2
    rw [wrap_of h2.1 h2.2, if_pos h1]
    have : (decide (b > 0) && decide (a > IntKind.wrap .i64 (9223372036854775807 - b)) || decide (b < 0) && decide (a < IntKind.wrap .i64 (-9223372036854775808 - b))) = false := by
      simp only [Bool.or_eq_false_iff, Bool.and_eq_false_iff, decide_eq_false_iff_not]
      omega
    rw [this]; rfl
  · have h2 := h1
    unfold fit at h2
    rw [if_neg h1]
    have : (decide (b > 0) && decide (a > IntKind.wrap .i64 (9223372036854775807 - b)) || decide (b < 0) && decide (a < IntKind.wrap .i64 (-9223372036854775808 - b))) = true := by
      simp only [Bool.or_eq_true, Bool.and_eq_true, decide_eq_true_eq]
      omega
    rw [this]; rfl
theorem num_Sub {a b : Int} (ha : R_i64 a) (hb : R_i64 b) : g_num_Sub (a, (b, ())) = some (if fit (a - b) then (a - b, (0, ())) else (0, (3, ()))) := by
  unfold g_num_Sub
  unfold R_i64 at ha hb
  have h := IntKind.wrap_i64 (a - b)
  by_cases h1 : fit (a - b)
  · have h2 := h1
    unfold fit at h2
    rw [wrap_of h2.1 h2.2, if_pos h1]
    have : ((decide (a - b < a) != decide (b > 0)) && b != 0) = false := by
      by_cases hb : b > 0
      · simp [hb]; omega
      · simp [hb]; omega
    rw [this]; rfl
  · have h2 := h1
    unfold fit at h2
    rw [if_neg h1]
    have : ((decide (IntKind.wrap .i64 (a - b) < a) != decide (b > 0)) && b != 0) = true := by
      simp only [Bool.and_eq_true, bne_iff_ne, ne_eq, decide_eq_decide]
      omega
    rw [this]; rfl
theorem ref01_Sub {a b : Int} (ha : R_i64 a) (hb : R_i64 b) : g_ref01_Sub (a, (b, ())) = some (if fit (a - b) then (a - b, (true, ())) else (0, (false, ()))) := by
  unfold g_ref01_Sub
  unfold R_i64 at ha hb
  have h := IntKind.wrap_i64 (9223372036854775807 + b)
  have h' := IntKind.wrap_i64 (-9223372036854775808 + b)
  by_cases h1 : fit (a - b)
  · have h2 := h1
    unfold fit at h2
    rw [wrap_of h2.1 h2.2, if_pos h1]
    have : (decide (b < 0) && decide (a > IntKind.wrap .i64 (9223372036854775807 + b)) || decide (b > 0) && decide (a < IntKind.wrap .i64 (-9223372036854775808 + b))) = false := by
      simp only [Bool.or_eq_false_iff, Bool.and_eq_false_iff, decide_eq_false_iff_not]
      omega
    rw [this]; rfl
  · have h2 := h1
    unfold fit at h2
    rw [if_neg h1]
    have : (decide (b < 0) && decide (a > IntKind.wrap .i64 (9223372036854775807 + b)) || decide (b > 0) && decide (a < IntKind.wrap .i64 (-9223372036854775808 + b))) = true := by
      simp only [Bool.or_eq_true, Bool.and_eq_true, decide_eq_true_eq]
      omega
    rw [this]; rfl
theorem nb_u64 (n : Int) : IntKind.u64.wrap n = n % 18446744073709551616 := by simp [IntKind.wrap, IntKind.bits, IntKind.signed]

theorem nb_u64_in (n : Int) (h0 : 0 ≤ n) (h1 : n < 18446744073709551616) : IntKind.u64.wrap n = n := by rw [nb_u64]; omega

theorem nb_wraps_u64 (n : Int) (h0 : 0 ≤ n) (h1 : n < 2 ^ 64) : IntKind.u64.wrap n = n := nb_u64_in n h0 (by simpa using h1)

theorem nb_mask (x : Int) (h0 : 0 ≤ x) (h1 : x < 18446744073709551616) : Go.bits .and .u64 x 4294967295 = x % 4294967296 :=
  bits_mask .u64 64 (by decide) nb_wraps_u64 32 (by decide) x h0 (by simpa using h1)

theorem nb_prod (a b n m : Int) (ha : 0 ≤ a) (hb : 0 ≤ b) (h1 : a ≤ n) (h2 : b ≤ m) : 0 ≤ a * b ∧ a * b ≤ n * m :=
  ⟨Int.mul_nonneg ha hb, Int.mul_le_mul h1 h2 hb (Int.le_trans ha h1)⟩

theorem bits_Mul64 (x y : Int) (hx0 : 0 ≤ x) (hx1 : x < 18446744073709551616) (hy0 : 0 ≤ y) (hy1 : y < 18446744073709551616) :
    g_math_bits_Mul64 (x, (y, ())) = some (x * y / 18446744073709551616, (x * y % 18446744073709551616, ())) := by
  unfold g_math_bits_Mul64
  simp only [two32, show ∀ z : Int, Int.fdiv z 4294967296 = z / 4294967296 from fun z => Int.fdiv_eq_ediv_of_nonneg z (by omega)]
  rw [nb_mask x hx0 hx1, nb_mask y hy0 hy1]
  obtain ⟨xh, xl, rfl, a0, a1, a2, a3⟩ : ∃ xh xl : Int, x = xh * 4294967296 + xl ∧ 0 ≤ xh ∧ xh ≤ 4294967295 ∧ 0 ≤ xl ∧ xl ≤ 4294967295 :=
    ⟨x / 4294967296, x % 4294967296, by omega, by omega, by omega, by omega, by omega⟩
  obtain ⟨yh, yl, rfl, b0, b1, b2, b3⟩ : ∃ yh yl : Int, y = yh * 4294967296 + yl ∧ 0 ≤ yh ∧ yh ≤ 4294967295 ∧ 0 ≤ yl ∧ yl ≤ 4294967295 :=
    ⟨y / 4294967296, y % 4294967296, by omega, by omega, by omega, by omega, by omega⟩
  have e1 : (xh * 4294967296 + xl) / 4294967296 = xh := by omega
  have e2 : (xh * 4294967296 + xl) % 4294967296 = xl := by omega
  have e3 : (yh * 4294967296 + yl) / 4294967296 = yh := by omega
  have e4 : (yh * 4294967296 + yl) % 4294967296 = yl := by omega
  rw [e1, e2, e3, e4]
  have p := nb_prod xh yh _ _ a0 b0 a1 b1
  have q := nb_prod xh yl _ _ a0 b2 a1 b3
  have r := nb_prod xl yh _ _ a2 b0 a3 b1
  have s := nb_prod xl yl _ _ a2 b2 a3 b3
  have e : (xh * 4294967296 + xl) * (yh * 4294967296 + yl) = xh * yh * 18446744073709551616 + (xh * yl + xl * yh) * 4294967296 + xl * yl := by grind
  rw [e]
  clear e e1 e2 e3 e4
  generalize xh * yh = P at *
  generalize xh * yl = Q at *
  generalize xl * yh = R at *
  generalize xl * yl = S at *
  simp only [Int.reduceMul] at p q r s
  rw [nb_u64_in P (by omega) (by omega), nb_u64_in Q (by omega) (by omega), nb_u64_in R (by omega) (by omega), nb_u64_in S (by omega) (by omega)]
  have t1 : 0 ≤ Q + S / 4294967296 ∧ Q + S / 4294967296 < 18446744073709551616 := by omega
  rw [nb_u64_in (Q + S / 4294967296) t1.1 t1.2, nb_mask _ t1.1 t1.2]
  have t2 : 0 ≤ (Q + S / 4294967296) % 4294967296 + R ∧ (Q + S / 4294967296) % 4294967296 + R < 18446744073709551616 := by omega
  rw [nb_u64_in _ t2.1 t2.2]
  rw [nb_u64_in (P + (Q + S / 4294967296) / 4294967296) (by omega) (by omega)]
  rw [nb_u64_in (P + (Q + S / 4294967296) / 4294967296 + ((Q + S / 4294967296) % 4294967296 + R) / 4294967296) (by omega) (by omega)]
  rw [nb_u64]
  obtain ⟨s1, s0, hs, hs0, hs1⟩ : ∃ s1 s0 : Int, S = s1 * 4294967296 + s0 ∧ 0 ≤ s0 ∧ s0 < 4294967296 := ⟨S / 4294967296, S % 4294967296, by omega, by omega, by omega⟩
  have es : S / 4294967296 = s1 := by omega
  rw [es] at t1 t2 ⊢
  obtain ⟨u1, u0, hu, hu0, hu1⟩ : ∃ u1 u0 : Int, Q + s1 = u1 * 4294967296 + u0 ∧ 0 ≤ u0 ∧ u0 < 4294967296 := ⟨(Q + s1) / 4294967296, (Q + s1) % 4294967296, by omega, by omega, by omega⟩
  have eu : (Q + s1) / 4294967296 = u1 := by omega
  have eu' : (Q + s1) % 4294967296 = u0 := by omega
  rw [eu, eu']
  obtain ⟨v1, v0, hv, hv0, hv1⟩ : ∃ v1 v0 : Int, u0 + R = v1 * 4294967296 + v0 ∧ 0 ≤ v0 ∧ v0 < 4294967296 := ⟨(u0 + R) / 4294967296, (u0 + R) % 4294967296, by omega, by omega, by omega⟩
  have ev : (u0 + R) / 4294967296 = v1 := by omega
  rw [ev]
  simp only [Option.some.injEq, Prod.mk.injEq, and_true]
  have e : P * 18446744073709551616 + (Q + R) * 4294967296 + S = (P + u1 + v1) * 18446744073709551616 + (v0 * 4294967296 + s0) := by omega
  rw [e]
  omega


theorem num_size (a : Int) (ha : R_i64 a) : g_num_size (a, ()) = some (a.natAbs : Int) := by
  unfold R_i64 at ha
  unfold g_num_size
  rw [nb_u64, nb_u64]
  by_cases h : a < 0
  · simp only [h, decide_true, cond_true]; congr 1; omega
  · simp only [h, decide_false, cond_false]; congr 1; omega
theorem nb_abs_mul (a b : Int) : a * b = if (decide (a < 0) != decide (b < 0)) = true then -((a.natAbs : Int) * (b.natAbs : Int)) else (a.natAbs : Int) * (b.natAbs : Int) := by
  by_cases h : a < 0
  · obtain ⟨n, rfl⟩ : ∃ n : Nat, a = -(n : Int) := ⟨a.natAbs, by omega⟩
    by_cases g : b < 0
    · obtain ⟨m, rfl⟩ : ∃ m : Nat, b = -(m : Int) := ⟨b.natAbs, by omega⟩
      simp only [h, g, decide_true, bne_self_eq_false, Int.natAbs_neg, Int.natAbs_natCast]; simp [Int.neg_mul_neg]
    · obtain ⟨m, rfl⟩ : ∃ m : Nat, b = (m : Int) := ⟨b.natAbs, by omega⟩
      simp only [h, g, decide_true, decide_false, Int.natAbs_neg, Int.natAbs_natCast]; simp [Int.neg_mul]
  · obtain ⟨n, rfl⟩ : ∃ n : Nat, a = (n : Int) := ⟨a.natAbs, by omega⟩
    by_cases g : b < 0
    · obtain ⟨m, rfl⟩ : ∃ m : Nat, b = -(m : Int) := ⟨b.natAbs, by omega⟩
      simp only [h, g, decide_true, decide_false, Int.natAbs_neg, Int.natAbs_natCast]; simp [Int.mul_neg]
    · obtain ⟨m, rfl⟩ : ∃ m : Nat, b = (m : Int) := ⟨b.natAbs, by omega⟩
      simp only [h, g, decide_false, bne_self_eq_false, Int.natAbs_natCast]; simp


theorem num_Mul (a b : Int) (ha : R_i64 a) (hb : R_i64 b) : g_num_Mul (a, (b, ())) = some (if fit (a * b) then (a * b, (0, ())) else (0, (3, ()))) := by
  unfold g_num_Mul
  rw [num_size a ha, num_size b hb]
  simp only [Option.bind_some]
  have hpa : 0 ≤ (a.natAbs : Int) ∧ (a.natAbs : Int) ≤ 9223372036854775808 := by unfold R_i64 at ha; omega
  have hpb : 0 ≤ (b.natAbs : Int) ∧ (b.natAbs : Int) ≤ 9223372036854775808 := by unfold R_i64 at hb; omega
  rw [bits_Mul64 _ _ hpa.1 (by omega) hpb.1 (by omega)]
  simp only [Option.bind_some]
  have hab := nb_abs_mul a b
  have hp := nb_prod _ _ _ _ hpa.1 hpb.1 hpa.2 hpb.2
  generalize (a.natAbs : Int) * (b.natAbs : Int) = p at *
  generalize (decide (a < 0) != decide (b < 0)) = m at *
  generalize a * b = z at *
  clear hpa hpb ha hb
  simp only [Int.reduceMul] at hp
  rw [nb_u64]
  have e2 : ((0 : Int) - p % 18446744073709551616) % 18446744073709551616 = (if p % 18446744073709551616 = 0 then 0 else 18446744073709551616 - p % 18446744073709551616) := by split <;> omega
  by_cases h1 : p / 18446744073709551616 = 0
  · have e : p % 18446744073709551616 = p := by omega
    rw [e] at e2 ⊢
    rw [e2]
    have b1 : (p / 18446744073709551616 == 0) = true := by simp [h1]
    rw [b1]
    cases m with
    | true =>
      simp only [if_true] at hab
      by_cases h2 : p ≤ 9223372036854775808
      · have hf : fit z := by unfold fit; omega
        simp only [h2, decide_true, Bool.and_self, cond_true, hf, if_true]
        have := IntKind.wrap_i64 (if p = 0 then 0 else 18446744073709551616 - p)
        congr 2
        rw [this]
        split <;> omega
      · have hf : ¬ fit z := by unfold fit; omega
        have h3 : ¬ p ≤ 9223372036854775807 := by omega
        simp [h2, h3, hf]
    | false =>
      simp only [Bool.false_eq_true, if_false] at hab
      by_cases h2 : p ≤ 9223372036854775807
      · have hf : fit z := by unfold fit; omega
        simp only [h2, decide_true, Bool.and_self, Bool.and_false, Bool.false_and, cond_true, cond_false, hf, if_true]
        congr 2
        rw [wrap_of (by omega) (by omega)]
        exact hab.symm
      · have hf : ¬ fit z := by unfold fit; omega
        simp [h2, hf]
  · have b1 : (p / 18446744073709551616 == 0) = false := by simp [h1]
    have hf : ¬ fit z := by
      unfold fit
      cases m <;> simp only [Bool.false_eq_true, if_true, if_false] at hab <;> omega
    simp [b1, hf]
theorem nr_whole (a : Int) (ha : R_i64 a) : g_ref01_whole (a, ()) = some (a.natAbs : Int) := by
  unfold R_i64 at ha
  unfold g_ref01_whole
  by_cases h : a < 0
  · have w1 : IntKind.wrap .i64 (a + 1) = a + 1 := wrap_of (by omega) (by omega)
    have w2 : IntKind.wrap .i64 (0 - (a + 1)) = 0 - (a + 1) := wrap_of (by omega) (by omega)
    simp only [h, decide_true, cond_true, w1, w2]
    rw [nb_u64_in (0 - (a + 1)) (by omega) (by omega), nb_u64_in _ (by omega) (by omega)]
    congr 1; omega
  · simp only [h, decide_false, cond_false]
    rw [nb_u64_in _ (by omega) (by omega)]; congr 1; omega

theorem nr_fd (x : Int) : Int.fdiv x 4294967296 = x / 4294967296 := Int.fdiv_eq_ediv_of_nonneg x (by decide)

theorem nr_mul0 (a b : Int) (ha : R_i64 a) (hb : R_i64 b) :
    ∃ d, g_ref01_Mul (a, (b, ())) = some (d, (decide (-9223372036854775808 ≤ a * b ∧ a * b < 9223372036854775808), ())) ∧ ((-9223372036854775808 ≤ a * b ∧ a * b < 9223372036854775808) → d = a * b) := by
  unfold g_ref01_Mul
  rw [nr_whole a ha, nr_whole b hb]
  simp only [Option.bind_some]
  rw [nb_abs_mul a b]
  have hpa : 0 ≤ (a.natAbs : Int) ∧ (a.natAbs : Int) ≤ 9223372036854775808 := by unfold R_i64 at ha; omega
  have hpb : 0 ≤ (b.natAbs : Int) ∧ (b.natAbs : Int) ≤ 9223372036854775808 := by unfold R_i64 at hb; omega
  have hm : (a.natAbs : Int) * (b.natAbs : Int) = 0 ∨ 0 < (a.natAbs : Int) * (b.natAbs : Int) := by
    rcases Int.lt_or_le 0 ((a.natAbs : Int) * (b.natAbs : Int)) with h | h
    · exact .inr h
    · exact .inl (by have := Int.mul_nonneg hpa.1 hpb.1; omega)
  generalize (decide (a < 0) != decide (b < 0)) = m
  generalize (a.natAbs : Int) = x at *
  generalize (b.natAbs : Int) = y at *
  clear ha hb
  simp only [two32, nr_fd]
  rw [nb_mask x hpa.1 (by omega), nb_mask y hpb.1 (by omega)]
  obtain ⟨xh, xl, rfl, a0, a1, a2, a3⟩ : ∃ xh xl : Int, x = xh * 4294967296 + xl ∧ 0 ≤ xh ∧ xh ≤ 4294967295 ∧ 0 ≤ xl ∧ xl ≤ 4294967295 :=
    ⟨x / 4294967296, x % 4294967296, by omega, by omega, by omega, by omega, by omega⟩
  obtain ⟨yh, yl, rfl, b0, b1, b2, b3⟩ : ∃ yh yl : Int, y = yh * 4294967296 + yl ∧ 0 ≤ yh ∧ yh ≤ 4294967295 ∧ 0 ≤ yl ∧ yl ≤ 4294967295 :=
    ⟨y / 4294967296, y % 4294967296, by omega, by omega, by omega, by omega, by omega⟩
  have e1 : (xh * 4294967296 + xl) / 4294967296 = xh := by omega
  have e2 : (xh * 4294967296 + xl) % 4294967296 = xl := by omega
  have e3 : (yh * 4294967296 + yl) / 4294967296 = yh := by omega
  have e4 : (yh * 4294967296 + yl) % 4294967296 = yl := by omega
  rw [e1, e2, e3, e4]
  have p := nb_prod xh yh _ _ a0 b0 a1 b1
  have q := nb_prod xh yl _ _ a0 b2 (show xh ≤ 2147483648 by omega) b3
  have r := nb_prod xl yh _ _ a2 b0 a3 (show yh ≤ 2147483648 by omega)
  have s := nb_prod xl yl _ _ a2 b2 a3 b3
  have e : (xh * 4294967296 + xl) * (yh * 4294967296 + yl) = xh * yh * 18446744073709551616 + (xh * yl + xl * yh) * 4294967296 + xl * yl := by grind
  rw [e] at hm ⊢
  have hP : xh * yh = 0 ↔ ¬ (xh > 0 ∧ yh > 0) := by
    rw [Int.mul_eq_zero]; omega
  clear e e1 e2 e3 e4
  simp only [cond_eq_ite, Bool.and_eq_true, Bool.or_eq_true, decide_eq_true_eq]
  by_cases c : xh > 0 ∧ yh > 0
  · have hP' : 0 < xh * yh := by
      have := (not_congr hP).2 (by simpa using c)
      omega
    rw [if_pos c]
    refine ⟨0, ?_, ?_⟩
    · congr 3
      symm
      rw [decide_eq_false_iff_not]
      cases m <;> simp only [Bool.false_eq_true, if_true, if_false] <;> omega
    · intro hh
      cases m <;> simp only [Bool.false_eq_true, if_true, if_false] at hh ⊢ <;> omega
  · have hP' : xh * yh = 0 := hP.2 c
    rw [hP'] at hm ⊢
    rw [if_neg c]
    clear hP hP' p c
    generalize xh * yl = Q at *
    generalize xl * yh = R at *
    generalize xl * yl = S at *
    simp only [Int.reduceMul] at q r s
    rw [nb_u64_in Q (by omega) (by omega), nb_u64_in R (by omega) (by omega), nb_u64_in S (by omega) (by omega)]
    rw [nb_u64_in (Q + R) (by omega) (by omega)]
    by_cases h1 : Q + R ≥ 4294967296
    · rw [if_pos h1]
      refine ⟨0, ?_, ?_⟩
      · congr 3
        symm
        rw [decide_eq_false_iff_not]
        cases m <;> simp only [Bool.false_eq_true, if_true, if_false] <;> omega
      · intro hh
        cases m <;> simp only [Bool.false_eq_true, if_true, if_false] at hh ⊢ <;> omega
    · rw [if_neg h1]
      rw [nb_u64_in ((Q + R) * 4294967296) (by omega) (by omega)]
      by_cases h2 : (Q + R) * 4294967296 + S < 18446744073709551616
      · rw [nb_u64_in ((Q + R) * 4294967296 + S) (by omega) h2]
        by_cases h3 : (Q + R) * 4294967296 + S > 9223372036854775808
        · rw [if_pos (by omega)]
          refine ⟨0, ?_, ?_⟩
          · congr 3
            symm
            rw [decide_eq_false_iff_not]
            cases m <;> simp only [Bool.false_eq_true, if_true, if_false] <;> omega
          · intro hh
            cases m <;> simp only [Bool.false_eq_true, if_true, if_false] at hh ⊢ <;> omega
        · rw [if_neg (by omega)]
          generalize hn : (Q + R) * 4294967296 + S = n at *
          have hn' : 0 * 18446744073709551616 + (Q + R) * 4294967296 + S = n := by omega
          rw [hn'] at hm ⊢
          cases m <;> simp only [Bool.false_eq_true, if_true, if_false]
          · refine ⟨IntKind.wrap .i64 (IntKind.wrap .u64 n), ?_, ?_⟩
            · rw [show decide (n < 9223372036854775808) = decide (-9223372036854775808 ≤ n ∧ n < 9223372036854775808) from decide_eq_decide.2 (by omega)]
              try rw [nb_u64_in n (by omega) (by omega)]
            · intro hh; rw [nb_u64_in n (by omega) (by omega)]; exact wrap_of (by omega) (by omega)
          · refine ⟨IntKind.wrap .i64 (IntKind.wrap .u64 (0 - n)), ?_, ?_⟩
            · rw [show decide (-9223372036854775808 ≤ -n ∧ -n < 9223372036854775808) = true from decide_eq_true (by omega)]
              try rw [nb_u64_in n (by omega) (by omega)]
            · intro hh; rw [nb_u64, IntKind.wrap_i64]; omega
      · have e5 : IntKind.u64.wrap ((Q + R) * 4294967296 + S) = (Q + R) * 4294967296 + S - 18446744073709551616 := by rw [nb_u64]; omega
        rw [e5, if_pos (by omega)]
        refine ⟨0, ?_, ?_⟩
        · congr 3
          symm
          rw [decide_eq_false_iff_not]
          cases m <;> simp only [Bool.false_eq_true, if_true, if_false] <;> omega
        · intro hh
          cases m <;> simp only [Bool.false_eq_true, if_true, if_false] at hh ⊢ <;> omega

theorem nr_mul (a b : Int) (ha : R_i64 a) (hb : R_i64 b) :
    ∃ d, g_ref01_Mul (a, (b, ())) = some (d, (decide (fit (a * b)), ())) ∧ (fit (a * b) → d = a * b) := by
  obtain ⟨d, h1, h2⟩ := nr_mul0 a b ha hb
  refine ⟨d, ?_, h2⟩
  rw [h1]
  congr 3
end Go.AI
