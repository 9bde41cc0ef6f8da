/- Any two int64 numbers' sum, difference and product, the total of any numbers, and the greater of two, are what the document says, or there is none: up to 300 numbers. -/
import Derived.Test.YtgelpkghkgagfaaPNumRightx2
import Derived.Test.YtgelpkghkgagfaaWSized
namespace Go.Proofs.Ytgelpkghkgagfaa.Pure
open Go.RowKit Go.Proofs.Ytgelpkghkgagfaa.PNumRight Go.Proofs.YtgelpkghkgagfaaW.PrintWords Go.Proofs.YtgelpkghkgagfaaW.PrintLast

/-- The numbers that there are. -/
def In64 (n : Int) : Prop := -9223372036854775808 ≤ n ∧ n ≤ 9223372036854775807

theorem nb_i64 {a : Int} (h : (Lit.int .i64 a).wf = true) : In64 a := by
  simpa [In64, Lit.wf, IntKind.min, IntKind.max, IntKind.signed, IntKind.bits] using h

theorem nb_wrap (n : Int) (h : In64 n) : wrap64 n = n := by
  unfold In64 at h; unfold wrap64; omega

theorem nb_add_ok (a b : Int) (h : In64 (a + b)) : num_Add.f a b = some (a + b, 0) := by
  unfold num_Add.f
  rw [nb_wrap _ h]
  by_cases c : b = 0
  · subst c; simp
  · by_cases d : b > 0
    · have e : a < a + b := by omega
      simp [d, e]
    · have e : ¬ (a < a + b) := by omega
      simp only [gt_iff_lt, e, c]; simp [d]

theorem nb_add_over (a b : Int) (ha : In64 a) (hb : In64 b) (h : ¬ In64 (a + b)) : num_Add.f a b = some (0, 3) := by
  unfold In64 at *
  unfold num_Add.f
  have c : ¬ b = 0 := by omega
  by_cases d : b > 0
  · have e : ¬ (wrap64 (a + b) > a) := by unfold wrap64; omega
    simp [d, e, c]
  · have e : wrap64 (a + b) > a := by unfold wrap64; omega
    simp only [d, e, c, if_false]; simp

theorem nb_sub_ok (a b : Int) (h : In64 (a - b)) : num_Sub.f a b = some (a - b, 0) := by
  unfold num_Sub.f
  rw [nb_wrap _ h]
  by_cases c : b = 0
  · subst c; simp
  · by_cases d : b > 0
    · have e : a - b < a := by omega
      simp [d, e]
    · have e : ¬ (a - b < a) := by omega
      simp only [e, c]; simp [d]

theorem nb_sub_over (a b : Int) (ha : In64 a) (hb : In64 b) (h : ¬ In64 (a - b)) : num_Sub.f a b = some (0, 3) := by
  unfold In64 at *
  unfold num_Sub.f
  have c : ¬ b = 0 := by omega
  by_cases d : b > 0
  · have e : ¬ (wrap64 (a - b) < a) := by unfold wrap64; omega
    simp [d, e, c]
  · have e : wrap64 (a - b) < a := by unfold wrap64; omega
    simp only [d, e, c, if_false]; simp

theorem nb_add (a b : Int) (ha : In64 a) (hb : In64 b) : num_Add.f a b = some (if -9223372036854775808 ≤ a + b ∧ a + b ≤ 9223372036854775807 then (a + b, 0) else (0, 3)) := by
  by_cases h : In64 (a + b)
  · rw [nb_add_ok a b h, if_pos (show _ ∧ _ from h)]
  · rw [nb_add_over a b ha hb h, if_neg (show ¬ (_ ∧ _) from h)]

theorem nb_sub (a b : Int) (ha : In64 a) (hb : In64 b) : num_Sub.f a b = some (if -9223372036854775808 ≤ a - b ∧ a - b ≤ 9223372036854775807 then (a - b, 0) else (0, 3)) := by
  by_cases h : In64 (a - b)
  · rw [nb_sub_ok a b h, if_pos (show _ ∧ _ from h)]
  · rw [nb_sub_over a b ha hb h, if_neg (show ¬ (_ ∧ _) from h)]

theorem nb_u64 (n : Int) : IntKind.u64.wrap n = n % 18446744073709551616 := by simp [IntKind.wrap, IntKind.bits, IntKind.signed]

theorem nb_u64_in (n : Int) (h0 : 0 ≤ n) (h1 : n < 18446744073709551616) : IntKind.u64.wrap n = n := by rw [nb_u64]; omega

theorem nb_wraps_u64 (n : Int) (h0 : 0 ≤ n) (h1 : n < 2 ^ 64) : IntKind.u64.wrap n = n := nb_u64_in n h0 (by simpa using h1)

theorem nb_mask (x : Int) (h0 : 0 ≤ x) (h1 : x < 18446744073709551616) : Go.bits .and .u64 x 4294967295 = x % 4294967296 :=
  bits_mask .u64 64 (by decide) nb_wraps_u64 32 (by decide) x h0 (by simpa using h1)

theorem nb_prod (a b n m : Int) (ha : 0 ≤ a) (hb : 0 ≤ b) (h1 : a ≤ n) (h2 : b ≤ m) : 0 ≤ a * b ∧ a * b ≤ n * m :=
  ⟨Int.mul_nonneg ha hb, Int.mul_le_mul h1 h2 hb (Int.le_trans ha h1)⟩

theorem nb_mul64 (x y : Int) (hx0 : 0 ≤ x) (hx1 : x < 18446744073709551616) (hy0 : 0 ≤ y) (hy1 : y < 18446744073709551616) :
    bits_Mul64.f x y = some (x * y / 18446744073709551616, x * y % 18446744073709551616) := by
  unfold bits_Mul64.f
  rw [nb_mask x hx0 hx1, nb_mask y hy0 hy1]
  obtain ⟨xh, xl, rfl, a0, a1, a2, a3⟩ : ∃ xh xl : Int, x = xh * 4294967296 + xl ∧ 0 ≤ xh ∧ xh ≤ 4294967295 ∧ 0 ≤ xl ∧ xl ≤ 4294967295 :=
    ⟨x / 4294967296, x % 4294967296, by omega, by omega, by omega, by omega, by omega⟩
  obtain ⟨yh, yl, rfl, b0, b1, b2, b3⟩ : ∃ yh yl : Int, y = yh * 4294967296 + yl ∧ 0 ≤ yh ∧ yh ≤ 4294967295 ∧ 0 ≤ yl ∧ yl ≤ 4294967295 :=
    ⟨y / 4294967296, y % 4294967296, by omega, by omega, by omega, by omega, by omega⟩
  have e1 : (xh * 4294967296 + xl) / 4294967296 = xh := by omega
  have e2 : (xh * 4294967296 + xl) % 4294967296 = xl := by omega
  have e3 : (yh * 4294967296 + yl) / 4294967296 = yh := by omega
  have e4 : (yh * 4294967296 + yl) % 4294967296 = yl := by omega
  rw [e1, e2, e3, e4]
  have p := nb_prod xh yh _ _ a0 b0 a1 b1
  have q := nb_prod xh yl _ _ a0 b2 a1 b3
  have r := nb_prod xl yh _ _ a2 b0 a3 b1
  have s := nb_prod xl yl _ _ a2 b2 a3 b3
  have e : (xh * 4294967296 + xl) * (yh * 4294967296 + yl) = xh * yh * 18446744073709551616 + (xh * yl + xl * yh) * 4294967296 + xl * yl := by grind
  rw [e]
  clear e e1 e2 e3 e4
  generalize xh * yh = P at *
  generalize xh * yl = Q at *
  generalize xl * yh = R at *
  generalize xl * yl = S at *
  simp only [Int.reduceMul] at p q r s
  rw [nb_u64_in P (by omega) (by omega), nb_u64_in Q (by omega) (by omega), nb_u64_in R (by omega) (by omega), nb_u64_in S (by omega) (by omega)]
  have t1 : 0 ≤ Q + S / 4294967296 ∧ Q + S / 4294967296 < 18446744073709551616 := by omega
  rw [nb_u64_in (Q + S / 4294967296) t1.1 t1.2, nb_mask _ t1.1 t1.2]
  have t2 : 0 ≤ (Q + S / 4294967296) % 4294967296 + R ∧ (Q + S / 4294967296) % 4294967296 + R < 18446744073709551616 := by omega
  rw [nb_u64_in _ t2.1 t2.2]
  rw [nb_u64_in (P + (Q + S / 4294967296) / 4294967296) (by omega) (by omega)]
  rw [nb_u64_in (P + (Q + S / 4294967296) / 4294967296 + ((Q + S / 4294967296) % 4294967296 + R) / 4294967296) (by omega) (by omega)]
  rw [nb_u64]
  obtain ⟨s1, s0, hs, hs0, hs1⟩ : ∃ s1 s0 : Int, S = s1 * 4294967296 + s0 ∧ 0 ≤ s0 ∧ s0 < 4294967296 := ⟨S / 4294967296, S % 4294967296, by omega, by omega, by omega⟩
  have es : S / 4294967296 = s1 := by omega
  rw [es] at t1 t2 ⊢
  obtain ⟨u1, u0, hu, hu0, hu1⟩ : ∃ u1 u0 : Int, Q + s1 = u1 * 4294967296 + u0 ∧ 0 ≤ u0 ∧ u0 < 4294967296 := ⟨(Q + s1) / 4294967296, (Q + s1) % 4294967296, by omega, by omega, by omega⟩
  have eu : (Q + s1) / 4294967296 = u1 := by omega
  have eu' : (Q + s1) % 4294967296 = u0 := by omega
  rw [eu, eu']
  obtain ⟨v1, v0, hv, hv0, hv1⟩ : ∃ v1 v0 : Int, u0 + R = v1 * 4294967296 + v0 ∧ 0 ≤ v0 ∧ v0 < 4294967296 := ⟨(u0 + R) / 4294967296, (u0 + R) % 4294967296, by omega, by omega, by omega⟩
  have ev : (u0 + R) / 4294967296 = v1 := by omega
  rw [ev]
  simp only [Option.some.injEq, Prod.mk.injEq, and_true]
  have e : P * 18446744073709551616 + (Q + R) * 4294967296 + S = (P + u1 + v1) * 18446744073709551616 + (v0 * 4294967296 + s0) := by omega
  rw [e]
  omega

theorem nb_size (a : Int) (ha : In64 a) : num_size.f a = some (a.natAbs : Int) := by
  unfold In64 at ha
  unfold num_size.f
  by_cases h : a < 0
  · rw [if_pos h, nb_u64, nb_u64]; congr 1; omega
  · rw [if_neg h, nb_u64]; congr 1; omega

theorem nb_abs_mul (a b : Int) : a * b = if (decide (a < 0) != decide (b < 0)) = true then -((a.natAbs : Int) * (b.natAbs : Int)) else (a.natAbs : Int) * (b.natAbs : Int) := by
  by_cases h : a < 0
  · obtain ⟨n, rfl⟩ : ∃ n : Nat, a = -(n : Int) := ⟨a.natAbs, by omega⟩
    by_cases g : b < 0
    · obtain ⟨m, rfl⟩ : ∃ m : Nat, b = -(m : Int) := ⟨b.natAbs, by omega⟩
      simp only [h, g, decide_true, bne_self_eq_false, Int.natAbs_neg, Int.natAbs_natCast]; simp [Int.neg_mul_neg]
    · obtain ⟨m, rfl⟩ : ∃ m : Nat, b = (m : Int) := ⟨b.natAbs, by omega⟩
      simp only [h, g, decide_true, decide_false, Int.natAbs_neg, Int.natAbs_natCast]; simp [Int.neg_mul]
  · obtain ⟨n, rfl⟩ : ∃ n : Nat, a = (n : Int) := ⟨a.natAbs, by omega⟩
    by_cases g : b < 0
    · obtain ⟨m, rfl⟩ : ∃ m : Nat, b = -(m : Int) := ⟨b.natAbs, by omega⟩
      simp only [h, g, decide_true, decide_false, Int.natAbs_neg, Int.natAbs_natCast]; simp [Int.mul_neg]
    · obtain ⟨m, rfl⟩ : ∃ m : Nat, b = (m : Int) := ⟨b.natAbs, by omega⟩
      simp only [h, g, decide_false, bne_self_eq_false, Int.natAbs_natCast]; simp

theorem nb_mul (k : Nat) (a b : Int) (ha : In64 a) (hb : In64 b) :
    num_Mul.f (k + 1) a b = some (if -9223372036854775808 ≤ a * b ∧ a * b ≤ 9223372036854775807 then (a * b, 0) else (0, 3)) := by
  unfold num_Mul.f
  rw [nb_size a ha, nb_size b hb]
  simp only [Option.bind_some]
  have hpa : 0 ≤ (a.natAbs : Int) ∧ (a.natAbs : Int) ≤ 9223372036854775808 := by unfold In64 at ha; omega
  have hpb : 0 ≤ (b.natAbs : Int) ∧ (b.natAbs : Int) ≤ 9223372036854775808 := by unfold In64 at hb; omega
  rw [nb_mul64 _ _ hpa.1 (by omega) hpb.1 (by omega)]
  simp only [Option.bind_some]
  rw [nb_abs_mul a b]
  have hp := nb_prod _ _ _ _ hpa.1 hpb.1 hpa.2 hpb.2
  generalize (a.natAbs : Int) * (b.natAbs : Int) = p at *
  generalize (decide (a < 0) != decide (b < 0)) = m
  clear hpa hpb ha hb
  simp only [num_Mul.j0, nb_u64, Bool.false_eq_true, if_false, decide_eq_true_eq]
  cases m <;> simp only [Bool.false_eq_true, if_true, if_false]
  · by_cases h1 : p / 18446744073709551616 = 0
    · simp only [h1, if_true]
      have e : p % 18446744073709551616 = p := by omega
      rw [e]
      by_cases h2 : p ≤ 9223372036854775807
      · rw [if_pos h2, if_pos (by omega), nb_wrap p (by unfold In64; omega)]
      · rw [if_neg h2, if_neg (by omega)]
    · simp only [h1, if_false]
      rw [if_neg (by omega)]
  · by_cases h1 : p / 18446744073709551616 = 0
    · simp only [h1, if_true]
      have e : p % 18446744073709551616 = p := by omega
      rw [e]
      by_cases h2 : p ≤ 9223372036854775808
      · rw [if_pos h2, if_pos (by omega)]
        congr 2
        unfold wrap64; omega
      · rw [if_neg h2, if_neg (by omega), if_neg (by omega)]
    · simp only [h1, if_false]
      rw [if_neg (by omega)]

theorem nb_awake (k : Nat) : snafflelaw01_awake.f (k + 5) = some true := by
  have h : snafflelaw01_awake.f 5 = some true := by decide +kernel
  exact at_rounds snafflelaw01_awake.mono (by omega) h

theorem nr_same (a e b : Int) (ok : Bool) : snafflelaw01_same.f a e b ok = some (decide (a = b) && ((e == 0) == ok) && (ok || e == 3) && (ok || a == 0)) := by
  unfold snafflelaw01_same.f
  by_cases h : a = b
  · rw [if_pos h]
    cases ok
    · by_cases g : e = 0
      · simp [h, g]
      · by_cases g3 : e = 3 <;> simp [h, g, g3]
    · by_cases g : e = 0 <;> simp [h, g]
  · rw [if_neg h]; simp [h]

theorem nr_add (a b : Int) (ha : In64 a) (hb : In64 b) : snaffleref01_Add.f a b = some (if -9223372036854775808 ≤ a + b ∧ a + b ≤ 9223372036854775807 then (a + b, true) else (0, false)) := by
  unfold In64 at ha hb
  unfold snaffleref01_Add.f
  have w0 : (-9223372036854775808 ≤ a + b ∧ a + b ≤ 9223372036854775807) → wrap64 (a + b) = a + b := fun h => nb_wrap _ h
  by_cases c : b > 0
  · rw [if_pos c, nb_wrap (9223372036854775807 - b) (by unfold In64; omega)]
    by_cases d : a > 9223372036854775807 - b
    · rw [if_pos d, if_neg (by omega)]
    · rw [if_neg d, if_neg (show ¬ b < 0 by omega), w0 (by omega), if_pos (by omega)]
  · rw [if_neg c]
    by_cases c' : b < 0
    · rw [if_pos c', nb_wrap (-9223372036854775808 - b) (by unfold In64; omega)]
      by_cases d : a < -9223372036854775808 - b
      · rw [if_pos d, if_neg (by omega)]
      · rw [if_neg d, w0 (by omega), if_pos (by omega)]
    · rw [if_neg c', w0 (by omega), if_pos (by omega)]

theorem nr_sub (a b : Int) (ha : In64 a) (hb : In64 b) : snaffleref01_Sub.f a b = some (if -9223372036854775808 ≤ a - b ∧ a - b ≤ 9223372036854775807 then (a - b, true) else (0, false)) := by
  unfold In64 at ha hb
  unfold snaffleref01_Sub.f
  have w0 : (-9223372036854775808 ≤ a - b ∧ a - b ≤ 9223372036854775807) → wrap64 (a - b) = a - b := fun h => nb_wrap _ h
  by_cases c : b < 0
  · rw [if_pos c, nb_wrap (9223372036854775807 + b) (by unfold In64; omega)]
    by_cases d : a > 9223372036854775807 + b
    · rw [if_pos d, if_neg (by omega)]
    · rw [if_neg d, if_neg (show ¬ b > 0 by omega), w0 (by omega), if_pos (by omega)]
  · rw [if_neg c]
    by_cases c' : b > 0
    · rw [if_pos c', nb_wrap (-9223372036854775808 + b) (by unfold In64; omega)]
      by_cases d : a < -9223372036854775808 + b
      · rw [if_pos d, if_neg (by omega)]
      · rw [if_neg d, w0 (by omega), if_pos (by omega)]
    · rw [if_neg c', w0 (by omega), if_pos (by omega)]

theorem nr_whole (a : Int) (ha : In64 a) : snaffleref01_whole.f a = some (a.natAbs : Int) := by
  unfold In64 at ha
  unfold snaffleref01_whole.f
  by_cases h : a < 0
  · rw [if_pos h, nb_wrap (a + 1) (by unfold In64; omega), nb_wrap _ (by unfold In64; omega), nb_u64_in (-(a + 1)) (by omega) (by omega), nb_u64_in _ (by omega) (by omega)]
    congr 1; omega
  · rw [if_neg h, nb_u64_in _ (by omega) (by omega)]; congr 1; omega

theorem nr_mul (k : Nat) (a b : Int) (ha : In64 a) (hb : In64 b) :
    ∃ d, snaffleref01_Mul.f (k + 2) a b = some (d, decide (-9223372036854775808 ≤ a * b ∧ a * b ≤ 9223372036854775807)) ∧
      ((-9223372036854775808 ≤ a * b ∧ a * b ≤ 9223372036854775807) → d = a * b) := by
  unfold snaffleref01_Mul.f
  rw [nr_whole a ha, nr_whole b hb]
  simp only [Option.bind_some]
  rw [nb_abs_mul a b]
  have hpa : 0 ≤ (a.natAbs : Int) ∧ (a.natAbs : Int) ≤ 9223372036854775808 := by unfold In64 at ha; omega
  have hpb : 0 ≤ (b.natAbs : Int) ∧ (b.natAbs : Int) ≤ 9223372036854775808 := by unfold In64 at hb; omega
  have hm : (a.natAbs : Int) * (b.natAbs : Int) = 0 ∨ 0 < (a.natAbs : Int) * (b.natAbs : Int) := by
    rcases Int.lt_or_le 0 ((a.natAbs : Int) * (b.natAbs : Int)) with h | h
    · exact .inr h
    · exact .inl (by have := Int.mul_nonneg hpa.1 hpb.1; omega)
  simp only [snaffleref01_Mul.j0, snaffleref01_Mul.j1]
  generalize (decide (a < 0) != decide (b < 0)) = m
  generalize (a.natAbs : Int) = x at *
  generalize (b.natAbs : Int) = y at *
  clear ha hb
  rw [nb_mask x hpa.1 (by omega), nb_mask y hpb.1 (by omega)]
  obtain ⟨xh, xl, rfl, a0, a1, a2, a3⟩ : ∃ xh xl : Int, x = xh * 4294967296 + xl ∧ 0 ≤ xh ∧ xh ≤ 4294967295 ∧ 0 ≤ xl ∧ xl ≤ 4294967295 :=
    ⟨x / 4294967296, x % 4294967296, by omega, by omega, by omega, by omega, by omega⟩
  obtain ⟨yh, yl, rfl, b0, b1, b2, b3⟩ : ∃ yh yl : Int, y = yh * 4294967296 + yl ∧ 0 ≤ yh ∧ yh ≤ 4294967295 ∧ 0 ≤ yl ∧ yl ≤ 4294967295 :=
    ⟨y / 4294967296, y % 4294967296, by omega, by omega, by omega, by omega, by omega⟩
  have e1 : (xh * 4294967296 + xl) / 4294967296 = xh := by omega
  have e2 : (xh * 4294967296 + xl) % 4294967296 = xl := by omega
  have e3 : (yh * 4294967296 + yl) / 4294967296 = yh := by omega
  have e4 : (yh * 4294967296 + yl) % 4294967296 = yl := by omega
  rw [e1, e2, e3, e4]
  have p := nb_prod xh yh _ _ a0 b0 a1 b1
  have q := nb_prod xh yl _ _ a0 b2 (show xh ≤ 2147483648 by omega) b3
  have r := nb_prod xl yh _ _ a2 b0 a3 (show yh ≤ 2147483648 by omega)
  have s := nb_prod xl yl _ _ a2 b2 a3 b3
  have e : (xh * 4294967296 + xl) * (yh * 4294967296 + yl) = xh * yh * 18446744073709551616 + (xh * yl + xl * yh) * 4294967296 + xl * yl := by grind
  rw [e] at hm ⊢
  have hP : xh * yh = 0 ↔ ¬ (xh > 0 ∧ yh > 0) := by
    rw [Int.mul_eq_zero]; omega
  clear e e1 e2 e3 e4
  by_cases c : xh > 0 ∧ yh > 0
  · have hP' : 0 < xh * yh := by
      have := (not_congr hP).2 (by simpa using c)
      omega
    have : decide (yh > 0) = true := by simp [c.2]
    rw [if_pos c.1, this]
    simp only [if_true]
    refine ⟨0, ?_, ?_⟩
    · congr 2
      symm
      rw [decide_eq_false_iff_not]
      cases m <;> simp only [Bool.false_eq_true, if_true, if_false] <;> omega
    · intro hh
      cases m <;> simp only [Bool.false_eq_true, if_true, if_false] at hh ⊢ <;> omega
  · have hP' : xh * yh = 0 := hP.2 c
    rw [hP'] at hm ⊢
    have hred : ∀ f g : Option (Int × Bool), (if xh > 0 then (if decide (yh > 0) = true then f else g) else (if false = true then f else g)) = g := by
      intro f g
      by_cases h1 : xh > 0
      · have h2 : ¬ yh > 0 := fun h => c ⟨h1, h⟩
        simp [h1, h2]
      · simp [h1]
    rw [hred]
    clear hred hP hP' p c
    generalize xh * yl = Q at *
    generalize xl * yh = R at *
    generalize xl * yl = S at *
    simp only [Int.reduceMul] at q r s
    rw [nb_u64_in Q (by omega) (by omega), nb_u64_in R (by omega) (by omega), nb_u64_in S (by omega) (by omega)]
    rw [nb_u64_in (Q + R) (by omega) (by omega)]
    by_cases h1 : Q + R ≥ 4294967296
    · rw [if_pos h1]
      refine ⟨0, ?_, ?_⟩
      · congr 2
        symm
        rw [decide_eq_false_iff_not]
        cases m <;> simp only [Bool.false_eq_true, if_true, if_false] <;> omega
      · intro hh
        cases m <;> simp only [Bool.false_eq_true, if_true, if_false] at hh ⊢ <;> omega
    · rw [if_neg h1]
      rw [nb_u64_in ((Q + R) * 4294967296) (by omega) (by omega)]
      by_cases h2 : (Q + R) * 4294967296 + S < 18446744073709551616
      · rw [nb_u64_in ((Q + R) * 4294967296 + S) (by omega) h2, if_neg (by omega)]
        by_cases h3 : (Q + R) * 4294967296 + S > 9223372036854775808
        · rw [if_pos (by simpa using h3)]
          refine ⟨0, ?_, ?_⟩
          · congr 2
            symm
            rw [decide_eq_false_iff_not]
            cases m <;> simp only [Bool.false_eq_true, if_true, if_false] <;> omega
          · intro hh
            cases m <;> simp only [Bool.false_eq_true, if_true, if_false] at hh ⊢ <;> omega
        · rw [if_neg (by simpa using h3)]
          generalize hn : (Q + R) * 4294967296 + S = n at *
          have hn' : 0 * 18446744073709551616 + (Q + R) * 4294967296 + S = n := by omega
          rw [hn'] at hm ⊢
          cases m <;> simp only [Bool.false_eq_true, if_true, if_false]
          · refine ⟨wrap64 n, ?_, ?_⟩
            · rw [show decide (n < 9223372036854775808) = decide (-9223372036854775808 ≤ n ∧ n ≤ 9223372036854775807) from decide_eq_decide.2 (by omega)]
            · intro hh; unfold wrap64; omega
          · refine ⟨wrap64 (IntKind.u64.wrap (-n)), ?_, ?_⟩
            · rw [show decide (-9223372036854775808 ≤ -n ∧ -n ≤ 9223372036854775807) = true from decide_eq_true (by omega)]
            · intro hh; rw [nb_u64]; unfold wrap64; omega
      · have e5 : IntKind.u64.wrap ((Q + R) * 4294967296 + S) = (Q + R) * 4294967296 + S - 18446744073709551616 := by rw [nb_u64]; omega
        rw [e5, if_pos (by omega)]
        simp only [if_true]
        refine ⟨0, ?_, ?_⟩
        · congr 2
          symm
          rw [decide_eq_false_iff_not]
          cases m <;> simp only [Bool.false_eq_true, if_true, if_false] <;> omega
        · intro hh
          cases m <;> simp only [Bool.false_eq_true, if_true, if_false] at hh ⊢ <;> omega

/-- Numbers added in order, as long as there is a sum. -/
def tot : Int → List Int → Option Int
  | s, [] => some s
  | s, x :: l => if -9223372036854775808 ≤ s + x ∧ s + x ≤ 9223372036854775807 then tot (s + x) l else none

theorem rd_get (l : List Int) (i : Nat) (h : i < l.length) : rd l (i : Int) = l[i] := by
  unfold rd
  rw [Int.toNat_natCast, List.getD_eq_getElem?_getD, List.getElem?_eq_getElem h]; rfl

theorem nr_total (l : List Int) (hl : ∀ x ∈ l, In64 x) (hn : l.length ≤ 300) (d : Nat) : ∀ (k i : Nat) (s : Int), i ≤ l.length → l.length - i = d → d < k → In64 s →
    num_Total.l0 k s l (l.length : Int) (i : Int) = some (match tot s (l.drop i) with | some t => (t, 0) | none => (0, 3)) := by
  induction d with
  | zero =>
    intro k i s h0 h1 hk hs
    obtain ⟨k, rfl⟩ : ∃ m, k = m + 1 := ⟨k - 1, by omega⟩
    obtain rfl : i = l.length := by omega
    simp only [num_Total.l0]
    rw [if_neg (by omega), List.drop_length]
    rfl
  | succ d ih =>
    intro k i s h0 h1 hk hs
    obtain ⟨k, rfl⟩ : ∃ m, k = m + 1 := ⟨k - 1, by omega⟩
    have hi : i < l.length := by omega
    simp only [num_Total.l0]
    rw [if_pos (by omega), if_pos (by omega), if_pos (by omega), rd_get l i hi, nb_add _ _ hs (hl _ (List.getElem_mem hi)), List.drop_eq_getElem_cons hi]
    simp only [Option.bind_some, tot]
    by_cases c : -9223372036854775808 ≤ s + l[i] ∧ s + l[i] ≤ 9223372036854775807
    · rw [if_pos c, if_pos c]
      simp only [if_true]
      rw [nb_wrap _ (by unfold In64; omega)]
      exact ih k (i + 1) (s + l[i]) (by omega) (by omega) (by omega) c
    · rw [if_neg c, if_neg c]
      simp

theorem nr_rtotal (l : List Int) (hl : ∀ x ∈ l, In64 x) (hn : l.length ≤ 300) (d : Nat) : ∀ (k i : Nat) (s : Int), i ≤ l.length → l.length - i = d → d < k → In64 s →
    snaffleref01_Total.l0 k l s (i : Int) = some (match tot s (l.drop i) with | some t => (t, true) | none => (0, false)) := by
  induction d with
  | zero =>
    intro k i s h0 h1 hk hs
    obtain ⟨k, rfl⟩ : ∃ m, k = m + 1 := ⟨k - 1, by omega⟩
    obtain rfl : i = l.length := by omega
    simp only [snaffleref01_Total.l0]
    rw [if_neg (by omega), List.drop_length]
    rfl
  | succ d ih =>
    intro k i s h0 h1 hk hs
    obtain ⟨k, rfl⟩ : ∃ m, k = m + 1 := ⟨k - 1, by omega⟩
    have hi : i < l.length := by omega
    simp only [snaffleref01_Total.l0]
    rw [if_pos (by omega), if_pos (by omega), rd_get l i hi, nr_add _ _ hs (hl _ (List.getElem_mem hi)), List.drop_eq_getElem_cons hi]
    simp only [Option.bind_some, tot]
    by_cases c : -9223372036854775808 ≤ s + l[i] ∧ s + l[i] ≤ 9223372036854775807
    · rw [if_pos c, if_pos c]
      simp only [if_true]
      rw [nb_wrap _ (by unfold In64; omega)]
      exact ih k (i + 1) (s + l[i]) (by omega) (by omega) (by omega) c
    · rw [if_neg c, if_neg c]
      simp

theorem NumRight : snafflelaw01_NumRight.Pure := by
  intro a b l wa wb _ _ wl
  have ha := nb_i64 wa
  have hb := nb_i64 wb
  have hl : ∀ x ∈ l, In64 x := fun x hx => nb_i64 (wl x hx)
  refine ⟨1000, ?_⟩
  unfold snafflelaw01_NumRight.f
  rw [nb_awake 995]
  simp only [Option.bind_some, if_true]
  by_cases hn : (l.length : Int) > 300
  · rw [if_pos hn]
  · rw [if_neg hn]
    have hn' : l.length ≤ 300 := by omega
    have s1 : ∀ x : Int, snafflelaw01_same.f (if -9223372036854775808 ≤ x ∧ x ≤ 9223372036854775807 then (x, 0) else ((0, 3) : Int × Int)).1 (if -9223372036854775808 ≤ x ∧ x ≤ 9223372036854775807 then (x, 0) else ((0, 3) : Int × Int)).2
        (if -9223372036854775808 ≤ x ∧ x ≤ 9223372036854775807 then (x, true) else ((0, false) : Int × Bool)).1 (if -9223372036854775808 ≤ x ∧ x ≤ 9223372036854775807 then (x, true) else ((0, false) : Int × Bool)).2 = some true := by
      intro x
      rw [nr_same]
      by_cases h : -9223372036854775808 ≤ x ∧ x ≤ 9223372036854775807 <;> simp [h]
    rw [nb_add a b ha hb, nr_add a b ha hb]
    simp only [Option.bind_some]
    rw [s1]
    simp only [Option.bind_some, if_true]
    rw [nb_sub a b ha hb, nr_sub a b ha hb]
    simp only [Option.bind_some]
    rw [s1]
    simp only [Option.bind_some, if_true]
    obtain ⟨d, hd, hd'⟩ := nr_mul 998 a b ha hb
    rw [nb_mul 999 a b ha hb, hd]
    simp only [Option.bind_some]
    have s2 : snafflelaw01_NumRight.j0 1000 a b l
        (if -9223372036854775808 ≤ a * b ∧ a * b ≤ 9223372036854775807 then (a * b, 0) else ((0, 3) : Int × Int)).1
        (if -9223372036854775808 ≤ a * b ∧ a * b ≤ 9223372036854775807 then (a * b, 0) else ((0, 3) : Int × Int)).2
        (if -9223372036854775808 ≤ a * b ∧ a * b ≤ 9223372036854775807 then a * b else 0)
        (decide (-9223372036854775808 ≤ a * b ∧ a * b ≤ 9223372036854775807)) = some true := by
      simp only [snafflelaw01_NumRight.j0]
      rw [nr_same]
      have e : (decide ((if -9223372036854775808 ≤ a * b ∧ a * b ≤ 9223372036854775807 then (a * b, 0) else ((0, 3) : Int × Int)).1 = (if -9223372036854775808 ≤ a * b ∧ a * b ≤ 9223372036854775807 then a * b else 0)) &&
          (((if -9223372036854775808 ≤ a * b ∧ a * b ≤ 9223372036854775807 then (a * b, 0) else ((0, 3) : Int × Int)).2 == 0) == decide (-9223372036854775808 ≤ a * b ∧ a * b ≤ 9223372036854775807)) &&
          (decide (-9223372036854775808 ≤ a * b ∧ a * b ≤ 9223372036854775807) || (if -9223372036854775808 ≤ a * b ∧ a * b ≤ 9223372036854775807 then (a * b, 0) else ((0, 3) : Int × Int)).2 == 3) &&
          (decide (-9223372036854775808 ≤ a * b ∧ a * b ≤ 9223372036854775807) || (if -9223372036854775808 ≤ a * b ∧ a * b ≤ 9223372036854775807 then (a * b, 0) else ((0, 3) : Int × Int)).1 == 0)) = true := by
        by_cases h : -9223372036854775808 ≤ a * b ∧ a * b ≤ 9223372036854775807
        · simp only [if_pos h, decide_eq_true h]; simp
        · simp only [if_neg h, decide_eq_false h]; simp
      rw [e]
      simp only [Option.bind_some, if_true]
      unfold num_Total.f snaffleref01_Total.f
      have t1 := nr_total l hl hn' l.length 999 0 0 (by omega) (by omega) (by omega) (by unfold In64; omega)
      have t2 := nr_rtotal l hl hn' l.length 999 0 0 (by omega) (by omega) (by omega) (by unfold In64; omega)
      rw [show ((0 : Nat) : Int) = 0 from rfl] at t1 t2
      rw [t1, t2]
      simp only [Option.bind_some, List.drop_zero]
      rw [nr_same]
      have e : num_Max.f a b = some (max a b) := by unfold num_Max.f mx; congr 1; split <;> omega
      have e' : snaffleref01_Max.f a b = some (max a b) := by unfold snaffleref01_Max.f; split <;> (congr 1; omega)
      rw [e, e']
      cases tot 0 l <;> simp
    by_cases h : -9223372036854775808 ≤ a * b ∧ a * b ≤ 9223372036854775807
    · rw [hd' h] at *
      simpa only [h, and_self, decide_true, if_true] using s2
    · simpa only [h, decide_false, if_false, Bool.false_eq_true] using s2

end Go.Proofs.Ytgelpkghkgagfaa.Pure

namespace Go.Proofs.Ytgelpkghkgagfaa.PrintWords
/-- The word's other place, by which the row calls it. -/
abbrev sized_ints := @Go.Proofs.YtgelpkghkgagfaaW.PrintWords.sized_ints
end Go.Proofs.Ytgelpkghkgagfaa.PrintWords
