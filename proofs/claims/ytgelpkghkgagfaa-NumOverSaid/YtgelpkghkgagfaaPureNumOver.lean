/- There is no sum just where both are on one side of 0 and what is left to the end on that side is less than the other, and a product that there is, divided by one of the two, is the other: for all int64 numbers. -/
import Derived.Test.YtgelpkghkgagfaaPNumOverx2
namespace Go.Proofs.Ytgelpkghkgagfaa.Pure
open Go.RowKit Go.Proofs.Ytgelpkghkgagfaa.PNumOver Go.Proofs.YtgelpkghkgagfaaW.PrintWords Go.Proofs.YtgelpkghkgagfaaW.PrintLast

/-- The numbers that there are. -/
def In64 (n : Int) : Prop := -9223372036854775808 ≤ n ∧ n ≤ 9223372036854775807

theorem nb_i64 {a : Int} (h : (Lit.int .i64 a).wf = true) : In64 a := by
  simpa [In64, Lit.wf, IntKind.min, IntKind.max, IntKind.signed, IntKind.bits] using h

theorem nb_wrap (n : Int) (h : In64 n) : wrap64 n = n := by
  unfold In64 at h; unfold wrap64; omega

theorem nb_add_ok (a b : Int) (h : In64 (a + b)) : num_Add.f a b = some (a + b, 0) := by
  unfold num_Add.f
  rw [nb_wrap _ h]
  by_cases c : b = 0
  · subst c; simp
  · by_cases d : b > 0
    · have e : a < a + b := by omega
      simp [d, e]
    · have e : ¬ (a < a + b) := by omega
      simp only [gt_iff_lt, e, c]; simp [d]

theorem nb_add_over (a b : Int) (ha : In64 a) (hb : In64 b) (h : ¬ In64 (a + b)) : num_Add.f a b = some (0, 3) := by
  unfold In64 at *
  unfold num_Add.f
  have c : ¬ b = 0 := by omega
  by_cases d : b > 0
  · have e : ¬ (wrap64 (a + b) > a) := by unfold wrap64; omega
    simp [d, e, c]
  · have e : wrap64 (a + b) > a := by unfold wrap64; omega
    simp only [d, e, c, if_false]; simp

theorem nb_sub_ok (a b : Int) (h : In64 (a - b)) : num_Sub.f a b = some (a - b, 0) := by
  unfold num_Sub.f
  rw [nb_wrap _ h]
  by_cases c : b = 0
  · subst c; simp
  · by_cases d : b > 0
    · have e : a - b < a := by omega
      simp [d, e]
    · have e : ¬ (a - b < a) := by omega
      simp only [e, c]; simp [d]

theorem nb_sub_over (a b : Int) (ha : In64 a) (hb : In64 b) (h : ¬ In64 (a - b)) : num_Sub.f a b = some (0, 3) := by
  unfold In64 at *
  unfold num_Sub.f
  have c : ¬ b = 0 := by omega
  by_cases d : b > 0
  · have e : ¬ (wrap64 (a - b) < a) := by unfold wrap64; omega
    simp [d, e, c]
  · have e : wrap64 (a - b) < a := by unfold wrap64; omega
    simp only [d, e, c, if_false]; simp

theorem nb_add (a b : Int) (ha : In64 a) (hb : In64 b) : num_Add.f a b = some (if -9223372036854775808 ≤ a + b ∧ a + b ≤ 9223372036854775807 then (a + b, 0) else (0, 3)) := by
  by_cases h : In64 (a + b)
  · rw [nb_add_ok a b h, if_pos (show _ ∧ _ from h)]
  · rw [nb_add_over a b ha hb h, if_neg (show ¬ (_ ∧ _) from h)]

theorem nb_sub (a b : Int) (ha : In64 a) (hb : In64 b) : num_Sub.f a b = some (if -9223372036854775808 ≤ a - b ∧ a - b ≤ 9223372036854775807 then (a - b, 0) else (0, 3)) := by
  by_cases h : In64 (a - b)
  · rw [nb_sub_ok a b h, if_pos (show _ ∧ _ from h)]
  · rw [nb_sub_over a b ha hb h, if_neg (show ¬ (_ ∧ _) from h)]

theorem nb_u64 (n : Int) : IntKind.u64.wrap n = n % 18446744073709551616 := by simp [IntKind.wrap, IntKind.bits, IntKind.signed]

theorem nb_u64_in (n : Int) (h0 : 0 ≤ n) (h1 : n < 18446744073709551616) : IntKind.u64.wrap n = n := by rw [nb_u64]; omega

theorem nb_wraps_u64 (n : Int) (h0 : 0 ≤ n) (h1 : n < 2 ^ 64) : IntKind.u64.wrap n = n := nb_u64_in n h0 (by simpa using h1)

theorem nb_mask (x : Int) (h0 : 0 ≤ x) (h1 : x < 18446744073709551616) : Go.bits .and .u64 x 4294967295 = x % 4294967296 :=
  bits_mask .u64 64 (by decide) nb_wraps_u64 32 (by decide) x h0 (by simpa using h1)

theorem nb_prod (a b n m : Int) (ha : 0 ≤ a) (hb : 0 ≤ b) (h1 : a ≤ n) (h2 : b ≤ m) : 0 ≤ a * b ∧ a * b ≤ n * m :=
  ⟨Int.mul_nonneg ha hb, Int.mul_le_mul h1 h2 hb (Int.le_trans ha h1)⟩

theorem nb_mul64 (x y : Int) (hx0 : 0 ≤ x) (hx1 : x < 18446744073709551616) (hy0 : 0 ≤ y) (hy1 : y < 18446744073709551616) :
    bits_Mul64.f x y = some (x * y / 18446744073709551616, x * y % 18446744073709551616) := by
  unfold bits_Mul64.f
  rw [nb_mask x hx0 hx1, nb_mask y hy0 hy1]
  obtain ⟨xh, xl, rfl, a0, a1, a2, a3⟩ : ∃ xh xl : Int, x = xh * 4294967296 + xl ∧ 0 ≤ xh ∧ xh ≤ 4294967295 ∧ 0 ≤ xl ∧ xl ≤ 4294967295 :=
    ⟨x / 4294967296, x % 4294967296, by omega, by omega, by omega, by omega, by omega⟩
  obtain ⟨yh, yl, rfl, b0, b1, b2, b3⟩ : ∃ yh yl : Int, y = yh * 4294967296 + yl ∧ 0 ≤ yh ∧ yh ≤ 4294967295 ∧ 0 ≤ yl ∧ yl ≤ 4294967295 :=
    ⟨y / 4294967296, y % 4294967296, by omega, by omega, by omega, by omega, by omega⟩
  have e1 : (xh * 4294967296 + xl) / 4294967296 = xh := by omega
  have e2 : (xh * 4294967296 + xl) % 4294967296 = xl := by omega
  have e3 : (yh * 4294967296 + yl) / 4294967296 = yh := by omega
  have e4 : (yh * 4294967296 + yl) % 4294967296 = yl := by omega
  rw [e1, e2, e3, e4]
  have p := nb_prod xh yh _ _ a0 b0 a1 b1
  have q := nb_prod xh yl _ _ a0 b2 a1 b3
  have r := nb_prod xl yh _ _ a2 b0 a3 b1
  have s := nb_prod xl yl _ _ a2 b2 a3 b3
  have e : (xh * 4294967296 + xl) * (yh * 4294967296 + yl) = xh * yh * 18446744073709551616 + (xh * yl + xl * yh) * 4294967296 + xl * yl := by grind
  rw [e]
  clear e e1 e2 e3 e4
  generalize xh * yh = P at *
  generalize xh * yl = Q at *
  generalize xl * yh = R at *
  generalize xl * yl = S at *
  simp only [Int.reduceMul] at p q r s
  rw [nb_u64_in P (by omega) (by omega), nb_u64_in Q (by omega) (by omega), nb_u64_in R (by omega) (by omega), nb_u64_in S (by omega) (by omega)]
  have t1 : 0 ≤ Q + S / 4294967296 ∧ Q + S / 4294967296 < 18446744073709551616 := by omega
  rw [nb_u64_in (Q + S / 4294967296) t1.1 t1.2, nb_mask _ t1.1 t1.2]
  have t2 : 0 ≤ (Q + S / 4294967296) % 4294967296 + R ∧ (Q + S / 4294967296) % 4294967296 + R < 18446744073709551616 := by omega
  rw [nb_u64_in _ t2.1 t2.2]
  rw [nb_u64_in (P + (Q + S / 4294967296) / 4294967296) (by omega) (by omega)]
  rw [nb_u64_in (P + (Q + S / 4294967296) / 4294967296 + ((Q + S / 4294967296) % 4294967296 + R) / 4294967296) (by omega) (by omega)]
  rw [nb_u64]
  obtain ⟨s1, s0, hs, hs0, hs1⟩ : ∃ s1 s0 : Int, S = s1 * 4294967296 + s0 ∧ 0 ≤ s0 ∧ s0 < 4294967296 := ⟨S / 4294967296, S % 4294967296, by omega, by omega, by omega⟩
  have es : S / 4294967296 = s1 := by omega
  rw [es] at t1 t2 ⊢
  obtain ⟨u1, u0, hu, hu0, hu1⟩ : ∃ u1 u0 : Int, Q + s1 = u1 * 4294967296 + u0 ∧ 0 ≤ u0 ∧ u0 < 4294967296 := ⟨(Q + s1) / 4294967296, (Q + s1) % 4294967296, by omega, by omega, by omega⟩
  have eu : (Q + s1) / 4294967296 = u1 := by omega
  have eu' : (Q + s1) % 4294967296 = u0 := by omega
  rw [eu, eu']
  obtain ⟨v1, v0, hv, hv0, hv1⟩ : ∃ v1 v0 : Int, u0 + R = v1 * 4294967296 + v0 ∧ 0 ≤ v0 ∧ v0 < 4294967296 := ⟨(u0 + R) / 4294967296, (u0 + R) % 4294967296, by omega, by omega, by omega⟩
  have ev : (u0 + R) / 4294967296 = v1 := by omega
  rw [ev]
  simp only [Option.some.injEq, Prod.mk.injEq, and_true]
  have e : P * 18446744073709551616 + (Q + R) * 4294967296 + S = (P + u1 + v1) * 18446744073709551616 + (v0 * 4294967296 + s0) := by omega
  rw [e]
  omega

theorem nb_size (a : Int) (ha : In64 a) : num_size.f a = some (a.natAbs : Int) := by
  unfold In64 at ha
  unfold num_size.f
  by_cases h : a < 0
  · rw [if_pos h, nb_u64, nb_u64]; congr 1; omega
  · rw [if_neg h, nb_u64]; congr 1; omega

theorem nb_abs_mul (a b : Int) : a * b = if (decide (a < 0) != decide (b < 0)) = true then -((a.natAbs : Int) * (b.natAbs : Int)) else (a.natAbs : Int) * (b.natAbs : Int) := by
  by_cases h : a < 0
  · obtain ⟨n, rfl⟩ : ∃ n : Nat, a = -(n : Int) := ⟨a.natAbs, by omega⟩
    by_cases g : b < 0
    · obtain ⟨m, rfl⟩ : ∃ m : Nat, b = -(m : Int) := ⟨b.natAbs, by omega⟩
      simp only [h, g, decide_true, bne_self_eq_false, Int.natAbs_neg, Int.natAbs_natCast]; simp [Int.neg_mul_neg]
    · obtain ⟨m, rfl⟩ : ∃ m : Nat, b = (m : Int) := ⟨b.natAbs, by omega⟩
      simp only [h, g, decide_true, decide_false, Int.natAbs_neg, Int.natAbs_natCast]; simp [Int.neg_mul]
  · obtain ⟨n, rfl⟩ : ∃ n : Nat, a = (n : Int) := ⟨a.natAbs, by omega⟩
    by_cases g : b < 0
    · obtain ⟨m, rfl⟩ : ∃ m : Nat, b = -(m : Int) := ⟨b.natAbs, by omega⟩
      simp only [h, g, decide_true, decide_false, Int.natAbs_neg, Int.natAbs_natCast]; simp [Int.mul_neg]
    · obtain ⟨m, rfl⟩ : ∃ m : Nat, b = (m : Int) := ⟨b.natAbs, by omega⟩
      simp only [h, g, decide_false, bne_self_eq_false, Int.natAbs_natCast]; simp

theorem nb_mul (k : Nat) (a b : Int) (ha : In64 a) (hb : In64 b) :
    num_Mul.f (k + 1) a b = some (if -9223372036854775808 ≤ a * b ∧ a * b ≤ 9223372036854775807 then (a * b, 0) else (0, 3)) := by
  unfold num_Mul.f
  rw [nb_size a ha, nb_size b hb]
  simp only [Option.bind_some]
  have hpa : 0 ≤ (a.natAbs : Int) ∧ (a.natAbs : Int) ≤ 9223372036854775808 := by unfold In64 at ha; omega
  have hpb : 0 ≤ (b.natAbs : Int) ∧ (b.natAbs : Int) ≤ 9223372036854775808 := by unfold In64 at hb; omega
  rw [nb_mul64 _ _ hpa.1 (by omega) hpb.1 (by omega)]
  simp only [Option.bind_some]
  rw [nb_abs_mul a b]
  have hp := nb_prod _ _ _ _ hpa.1 hpb.1 hpa.2 hpb.2
  generalize (a.natAbs : Int) * (b.natAbs : Int) = p at *
  generalize (decide (a < 0) != decide (b < 0)) = m
  clear hpa hpb ha hb
  simp only [num_Mul.j0, nb_u64, Bool.false_eq_true, if_false, decide_eq_true_eq]
  cases m <;> simp only [Bool.false_eq_true, if_true, if_false]
  · by_cases h1 : p / 18446744073709551616 = 0
    · simp only [h1, if_true]
      have e : p % 18446744073709551616 = p := by omega
      rw [e]
      by_cases h2 : p ≤ 9223372036854775807
      · rw [if_pos h2, if_pos (by omega), nb_wrap p (by unfold In64; omega)]
      · rw [if_neg h2, if_neg (by omega)]
    · simp only [h1, if_false]
      rw [if_neg (by omega)]
  · by_cases h1 : p / 18446744073709551616 = 0
    · simp only [h1, if_true]
      have e : p % 18446744073709551616 = p := by omega
      rw [e]
      by_cases h2 : p ≤ 9223372036854775808
      · rw [if_pos h2, if_pos (by omega)]
        congr 2
        unfold wrap64; omega
      · rw [if_neg h2, if_neg (by omega), if_neg (by omega)]
    · simp only [h1, if_false]
      rw [if_neg (by omega)]

theorem nb_awake (k : Nat) : snafflelaw01_awake.f (k + 5) = some true := by
  have h : snafflelaw01_awake.f 5 = some true := by decide +kernel
  exact at_rounds snafflelaw01_awake.mono (by omega) h

theorem no_j0 (k : Nat) (a b e : Int) (X : Bool) (ha : In64 a) (hb : In64 b) (hX : X = (e == 3)) : snafflelaw01_NumOver.j0 (k + 2) a b e X = some true := by
  subst hX
  simp only [snafflelaw01_NumOver.j0, bne_self_eq_false, Bool.false_eq_true, if_false]
  rw [nb_mul k a b ha hb]
  simp only [Option.bind_some]
  by_cases h : -9223372036854775808 ≤ a * b ∧ a * b ≤ 9223372036854775807
  · rw [if_pos h]
    simp only [if_true]
    by_cases h0 : b = 0
    · subst h0; simp
    · rw [if_neg h0]
      by_cases h1 : b = -1
      · subst h1
        simp only [if_true]
        rw [nb_sub_ok 0 a (by unfold In64; omega)]
        simp only [Option.bind_some, if_true, Option.some.injEq, beq_iff_eq]
        omega
      · rw [if_neg h1, Int.mul_tdiv_cancel a h0, nb_wrap a ha, if_pos rfl, Int.mul_tmod_left]
        rfl
  · rw [if_neg h]
    simp only [show ¬ ((3 : Int) = 0) by decide, if_false]
    have c0 : ¬ a = 0 := by rintro rfl; simp at h
    have c1 : ¬ b = 0 := by rintro rfl; simp at h
    have c2 : ¬ a = 1 := by rintro rfl; unfold In64 at hb; omega
    have c3 : ¬ b = 1 := by rintro rfl; unfold In64 at ha; omega
    rw [if_neg c0, if_neg c1, if_neg c2]
    simp [c3]

theorem NumOver : snafflelaw01_NumOver.Pure := by
  intro a b wa wb
  have ha := nb_i64 wa
  have hb := nb_i64 wb
  refine ⟨6, ?_⟩
  unfold snafflelaw01_NumOver.f
  rw [nb_awake 1]
  simp only [Option.bind_some, if_true]
  rw [nb_add a b ha hb]
  simp only [Option.bind_some]
  unfold In64 at ha hb
  obtain ⟨e, he, hE⟩ : ∃ e : Int, (if -9223372036854775808 ≤ a + b ∧ a + b ≤ 9223372036854775807 then (a + b, 0) else ((0, 3) : Int × Int)).2 = e ∧
      (e = 3 ↔ ¬ (-9223372036854775808 ≤ a + b ∧ a + b ≤ 9223372036854775807)) := by
    by_cases h : -9223372036854775808 ≤ a + b ∧ a + b ≤ 9223372036854775807
    · exact ⟨0, by rw [if_pos h], by simp [h]⟩
    · exact ⟨3, by rw [if_neg h], by simp [h]⟩
  rw [he]
  have key : ∀ X : Bool, (X = true ↔ e = 3) → snafflelaw01_NumOver.j0 6 a b e X = some true := by
    intro X hX
    refine no_j0 4 a b _ X ha hb ?_
    cases X
    · have : ¬ e = 3 := fun h => by simpa using hX.2 h
      simp [this]
    · have := hX.1 rfl
      simp [this]
  have w1 : wrap64 (9223372036854775807 - a) < b ↔ (if 0 ≤ a then 9223372036854775807 - a < b else 9223372036854775807 - a - 18446744073709551616 < b) := by
    unfold wrap64; split <;> omega
  have w2 : wrap64 (-9223372036854775808 - a) > b ↔ (if a ≤ 0 then -9223372036854775808 - a > b else -9223372036854775808 - a + 18446744073709551616 > b) := by
    unfold wrap64; split <;> omega
  clear he
  by_cases a0 : 0 ≤ a <;> by_cases b0 : 0 ≤ b <;> by_cases l1 : wrap64 (9223372036854775807 - a) < b <;> by_cases l2 : wrap64 (-9223372036854775808 - a) > b <;> (
    have a1 : a ≥ 0 ↔ 0 ≤ a := Iff.rfl
    have a2 : a < 0 ↔ ¬ 0 ≤ a := by omega
    have b1 : b ≥ 0 ↔ 0 ≤ b := Iff.rfl
    have b2 : b < 0 ↔ ¬ 0 ≤ b := by omega
    simp only [a1, a2, b1, b2, a0, b0, l1, l2, if_true, if_false, not_true, not_false_iff]
    refine key _ ?_
    rw [hE]
    rw [w1] at l1
    rw [w2] at l2
    simp only [decide_true, decide_false, Bool.false_eq_true, true_iff, false_iff]
    split at l1 <;> split at l2 <;> omega)

end Go.Proofs.Ytgelpkghkgagfaa.Pure
