/- Numbers added in two parts come to what they come to as a whole, and the total of numbers from 0 on does not ask for their order and is no less than the total of the first ones: up to 300 int64 numbers. -/
import Derived.Test.YtgelpkghkgagfaaPNumTotalx2
import Derived.Test.YtgelpkghkgagfaaWSized
namespace Go.Proofs.Ytgelpkghkgagfaa.Pure
open Go.RowKit Go.Proofs.Ytgelpkghkgagfaa.PNumTotal Go.Proofs.YtgelpkghkgagfaaW.PrintWords Go.Proofs.YtgelpkghkgagfaaW.PrintLast

/-- The numbers that there are. -/
def In64 (n : Int) : Prop := -9223372036854775808 ≤ n ∧ n ≤ 9223372036854775807

theorem nb_i64 {a : Int} (h : (Lit.int .i64 a).wf = true) : In64 a := by
  simpa [In64, Lit.wf, IntKind.min, IntKind.max, IntKind.signed, IntKind.bits] using h

theorem nb_wrap (n : Int) (h : In64 n) : wrap64 n = n := by
  unfold In64 at h; unfold wrap64; omega

theorem nb_add_ok (a b : Int) (h : In64 (a + b)) : num_Add.f a b = some (a + b, 0) := by
  unfold num_Add.f
  rw [nb_wrap _ h]
  by_cases c : b = 0
  · subst c; simp
  · by_cases d : b > 0
    · have e : a < a + b := by omega
      simp [d, e]
    · have e : ¬ (a < a + b) := by omega
      simp only [gt_iff_lt, e, c]; simp [d]

theorem nb_add_over (a b : Int) (ha : In64 a) (hb : In64 b) (h : ¬ In64 (a + b)) : num_Add.f a b = some (0, 3) := by
  unfold In64 at *
  unfold num_Add.f
  have c : ¬ b = 0 := by omega
  by_cases d : b > 0
  · have e : ¬ (wrap64 (a + b) > a) := by unfold wrap64; omega
    simp [d, e, c]
  · have e : wrap64 (a + b) > a := by unfold wrap64; omega
    simp only [d, e, c, if_false]; simp

theorem nb_sub_ok (a b : Int) (h : In64 (a - b)) : num_Sub.f a b = some (a - b, 0) := by
  unfold num_Sub.f
  rw [nb_wrap _ h]
  by_cases c : b = 0
  · subst c; simp
  · by_cases d : b > 0
    · have e : a - b < a := by omega
      simp [d, e]
    · have e : ¬ (a - b < a) := by omega
      simp only [e, c]; simp [d]

theorem nb_sub_over (a b : Int) (ha : In64 a) (hb : In64 b) (h : ¬ In64 (a - b)) : num_Sub.f a b = some (0, 3) := by
  unfold In64 at *
  unfold num_Sub.f
  have c : ¬ b = 0 := by omega
  by_cases d : b > 0
  · have e : ¬ (wrap64 (a - b) < a) := by unfold wrap64; omega
    simp [d, e, c]
  · have e : wrap64 (a - b) < a := by unfold wrap64; omega
    simp only [d, e, c, if_false]; simp

theorem nb_add (a b : Int) (ha : In64 a) (hb : In64 b) : num_Add.f a b = some (if -9223372036854775808 ≤ a + b ∧ a + b ≤ 9223372036854775807 then (a + b, 0) else (0, 3)) := by
  by_cases h : In64 (a + b)
  · rw [nb_add_ok a b h, if_pos (show _ ∧ _ from h)]
  · rw [nb_add_over a b ha hb h, if_neg (show ¬ (_ ∧ _) from h)]

theorem nb_sub (a b : Int) (ha : In64 a) (hb : In64 b) : num_Sub.f a b = some (if -9223372036854775808 ≤ a - b ∧ a - b ≤ 9223372036854775807 then (a - b, 0) else (0, 3)) := by
  by_cases h : In64 (a - b)
  · rw [nb_sub_ok a b h, if_pos (show _ ∧ _ from h)]
  · rw [nb_sub_over a b ha hb h, if_neg (show ¬ (_ ∧ _) from h)]

theorem nb_u64 (n : Int) : IntKind.u64.wrap n = n % 18446744073709551616 := by simp [IntKind.wrap, IntKind.bits, IntKind.signed]

theorem nb_u64_in (n : Int) (h0 : 0 ≤ n) (h1 : n < 18446744073709551616) : IntKind.u64.wrap n = n := by rw [nb_u64]; omega

theorem nb_wraps_u64 (n : Int) (h0 : 0 ≤ n) (h1 : n < 2 ^ 64) : IntKind.u64.wrap n = n := nb_u64_in n h0 (by simpa using h1)

theorem nb_mask (x : Int) (h0 : 0 ≤ x) (h1 : x < 18446744073709551616) : Go.bits .and .u64 x 4294967295 = x % 4294967296 :=
  bits_mask .u64 64 (by decide) nb_wraps_u64 32 (by decide) x h0 (by simpa using h1)

theorem nb_prod (a b n m : Int) (ha : 0 ≤ a) (hb : 0 ≤ b) (h1 : a ≤ n) (h2 : b ≤ m) : 0 ≤ a * b ∧ a * b ≤ n * m :=
  ⟨Int.mul_nonneg ha hb, Int.mul_le_mul h1 h2 hb (Int.le_trans ha h1)⟩

theorem nb_mul64 (x y : Int) (hx0 : 0 ≤ x) (hx1 : x < 18446744073709551616) (hy0 : 0 ≤ y) (hy1 : y < 18446744073709551616) :
    bits_Mul64.f x y = some (x * y / 18446744073709551616, x * y % 18446744073709551616) := by
  unfold bits_Mul64.f
  rw [nb_mask x hx0 hx1, nb_mask y hy0 hy1]
  obtain ⟨xh, xl, rfl, a0, a1, a2, a3⟩ : ∃ xh xl : Int, x = xh * 4294967296 + xl ∧ 0 ≤ xh ∧ xh ≤ 4294967295 ∧ 0 ≤ xl ∧ xl ≤ 4294967295 :=
    ⟨x / 4294967296, x % 4294967296, by omega, by omega, by omega, by omega, by omega⟩
  obtain ⟨yh, yl, rfl, b0, b1, b2, b3⟩ : ∃ yh yl : Int, y = yh * 4294967296 + yl ∧ 0 ≤ yh ∧ yh ≤ 4294967295 ∧ 0 ≤ yl ∧ yl ≤ 4294967295 :=
    ⟨y / 4294967296, y % 4294967296, by omega, by omega, by omega, by omega, by omega⟩
  have e1 : (xh * 4294967296 + xl) / 4294967296 = xh := by omega
  have e2 : (xh * 4294967296 + xl) % 4294967296 = xl := by omega
  have e3 : (yh * 4294967296 + yl) / 4294967296 = yh := by omega
  have e4 : (yh * 4294967296 + yl) % 4294967296 = yl := by omega
  rw [e1, e2, e3, e4]
  have p := nb_prod xh yh _ _ a0 b0 a1 b1
  have q := nb_prod xh yl _ _ a0 b2 a1 b3
  have r := nb_prod xl yh _ _ a2 b0 a3 b1
  have s := nb_prod xl yl _ _ a2 b2 a3 b3
  have e : (xh * 4294967296 + xl) * (yh * 4294967296 + yl) = xh * yh * 18446744073709551616 + (xh * yl + xl * yh) * 4294967296 + xl * yl := by grind
  rw [e]
  clear e e1 e2 e3 e4
  generalize xh * yh = P at *
  generalize xh * yl = Q at *
  generalize xl * yh = R at *
  generalize xl * yl = S at *
  simp only [Int.reduceMul] at p q r s
  rw [nb_u64_in P (by omega) (by omega), nb_u64_in Q (by omega) (by omega), nb_u64_in R (by omega) (by omega), nb_u64_in S (by omega) (by omega)]
  have t1 : 0 ≤ Q + S / 4294967296 ∧ Q + S / 4294967296 < 18446744073709551616 := by omega
  rw [nb_u64_in (Q + S / 4294967296) t1.1 t1.2, nb_mask _ t1.1 t1.2]
  have t2 : 0 ≤ (Q + S / 4294967296) % 4294967296 + R ∧ (Q + S / 4294967296) % 4294967296 + R < 18446744073709551616 := by omega
  rw [nb_u64_in _ t2.1 t2.2]
  rw [nb_u64_in (P + (Q + S / 4294967296) / 4294967296) (by omega) (by omega)]
  rw [nb_u64_in (P + (Q + S / 4294967296) / 4294967296 + ((Q + S / 4294967296) % 4294967296 + R) / 4294967296) (by omega) (by omega)]
  rw [nb_u64]
  obtain ⟨s1, s0, hs, hs0, hs1⟩ : ∃ s1 s0 : Int, S = s1 * 4294967296 + s0 ∧ 0 ≤ s0 ∧ s0 < 4294967296 := ⟨S / 4294967296, S % 4294967296, by omega, by omega, by omega⟩
  have es : S / 4294967296 = s1 := by omega
  rw [es] at t1 t2 ⊢
  obtain ⟨u1, u0, hu, hu0, hu1⟩ : ∃ u1 u0 : Int, Q + s1 = u1 * 4294967296 + u0 ∧ 0 ≤ u0 ∧ u0 < 4294967296 := ⟨(Q + s1) / 4294967296, (Q + s1) % 4294967296, by omega, by omega, by omega⟩
  have eu : (Q + s1) / 4294967296 = u1 := by omega
  have eu' : (Q + s1) % 4294967296 = u0 := by omega
  rw [eu, eu']
  obtain ⟨v1, v0, hv, hv0, hv1⟩ : ∃ v1 v0 : Int, u0 + R = v1 * 4294967296 + v0 ∧ 0 ≤ v0 ∧ v0 < 4294967296 := ⟨(u0 + R) / 4294967296, (u0 + R) % 4294967296, by omega, by omega, by omega⟩
  have ev : (u0 + R) / 4294967296 = v1 := by omega
  rw [ev]
  simp only [Option.some.injEq, Prod.mk.injEq, and_true]
  have e : P * 18446744073709551616 + (Q + R) * 4294967296 + S = (P + u1 + v1) * 18446744073709551616 + (v0 * 4294967296 + s0) := by omega
  rw [e]
  omega

theorem nb_size (a : Int) (ha : In64 a) : num_size.f a = some (a.natAbs : Int) := by
  unfold In64 at ha
  unfold num_size.f
  by_cases h : a < 0
  · rw [if_pos h, nb_u64, nb_u64]; congr 1; omega
  · rw [if_neg h, nb_u64]; congr 1; omega

theorem nb_abs_mul (a b : Int) : a * b = if (decide (a < 0) != decide (b < 0)) = true then -((a.natAbs : Int) * (b.natAbs : Int)) else (a.natAbs : Int) * (b.natAbs : Int) := by
  by_cases h : a < 0
  · obtain ⟨n, rfl⟩ : ∃ n : Nat, a = -(n : Int) := ⟨a.natAbs, by omega⟩
    by_cases g : b < 0
    · obtain ⟨m, rfl⟩ : ∃ m : Nat, b = -(m : Int) := ⟨b.natAbs, by omega⟩
      simp only [h, g, decide_true, bne_self_eq_false, Int.natAbs_neg, Int.natAbs_natCast]; simp [Int.neg_mul_neg]
    · obtain ⟨m, rfl⟩ : ∃ m : Nat, b = (m : Int) := ⟨b.natAbs, by omega⟩
      simp only [h, g, decide_true, decide_false, Int.natAbs_neg, Int.natAbs_natCast]; simp [Int.neg_mul]
  · obtain ⟨n, rfl⟩ : ∃ n : Nat, a = (n : Int) := ⟨a.natAbs, by omega⟩
    by_cases g : b < 0
    · obtain ⟨m, rfl⟩ : ∃ m : Nat, b = -(m : Int) := ⟨b.natAbs, by omega⟩
      simp only [h, g, decide_true, decide_false, Int.natAbs_neg, Int.natAbs_natCast]; simp [Int.mul_neg]
    · obtain ⟨m, rfl⟩ : ∃ m : Nat, b = (m : Int) := ⟨b.natAbs, by omega⟩
      simp only [h, g, decide_false, bne_self_eq_false, Int.natAbs_natCast]; simp

theorem nb_mul (k : Nat) (a b : Int) (ha : In64 a) (hb : In64 b) :
    num_Mul.f (k + 1) a b = some (if -9223372036854775808 ≤ a * b ∧ a * b ≤ 9223372036854775807 then (a * b, 0) else (0, 3)) := by
  unfold num_Mul.f
  rw [nb_size a ha, nb_size b hb]
  simp only [Option.bind_some]
  have hpa : 0 ≤ (a.natAbs : Int) ∧ (a.natAbs : Int) ≤ 9223372036854775808 := by unfold In64 at ha; omega
  have hpb : 0 ≤ (b.natAbs : Int) ∧ (b.natAbs : Int) ≤ 9223372036854775808 := by unfold In64 at hb; omega
  rw [nb_mul64 _ _ hpa.1 (by omega) hpb.1 (by omega)]
  simp only [Option.bind_some]
  rw [nb_abs_mul a b]
  have hp := nb_prod _ _ _ _ hpa.1 hpb.1 hpa.2 hpb.2
  generalize (a.natAbs : Int) * (b.natAbs : Int) = p at *
  generalize (decide (a < 0) != decide (b < 0)) = m
  clear hpa hpb ha hb
  simp only [num_Mul.j0, nb_u64, Bool.false_eq_true, if_false, decide_eq_true_eq]
  cases m <;> simp only [Bool.false_eq_true, if_true, if_false]
  · by_cases h1 : p / 18446744073709551616 = 0
    · simp only [h1, if_true]
      have e : p % 18446744073709551616 = p := by omega
      rw [e]
      by_cases h2 : p ≤ 9223372036854775807
      · rw [if_pos h2, if_pos (by omega), nb_wrap p (by unfold In64; omega)]
      · rw [if_neg h2, if_neg (by omega)]
    · simp only [h1, if_false]
      rw [if_neg (by omega)]
  · by_cases h1 : p / 18446744073709551616 = 0
    · simp only [h1, if_true]
      have e : p % 18446744073709551616 = p := by omega
      rw [e]
      by_cases h2 : p ≤ 9223372036854775808
      · rw [if_pos h2, if_pos (by omega)]
        congr 2
        unfold wrap64; omega
      · rw [if_neg h2, if_neg (by omega), if_neg (by omega)]
    · simp only [h1, if_false]
      rw [if_neg (by omega)]

theorem nb_awake (k : Nat) : snafflelaw01_awake.f (k + 5) = some true := by
  have h : snafflelaw01_awake.f 5 = some true := by decide +kernel
  exact at_rounds snafflelaw01_awake.mono (by omega) h

/-- Numbers added in order, as long as there is a sum. -/
def tot : Int → List Int → Option Int
  | s, [] => some s
  | s, x :: l => if -9223372036854775808 ≤ s + x ∧ s + x ≤ 9223372036854775807 then tot (s + x) l else none

theorem rd_get (l : List Int) (i : Nat) (h : i < l.length) : rd l (i : Int) = l[i] := by
  unfold rd
  rw [Int.toNat_natCast, List.getD_eq_getElem?_getD, List.getElem?_eq_getElem h]; rfl

theorem nr_total (l : List Int) (hl : ∀ x ∈ l, In64 x) (hn : l.length ≤ 1000) (d : Nat) : ∀ (k i : Nat) (s : Int), i ≤ l.length → l.length - i = d → d < k → In64 s →
    num_Total.l0 k s l (l.length : Int) (i : Int) = some (match tot s (l.drop i) with | some t => (t, 0) | none => (0, 3)) := by
  induction d with
  | zero =>
    intro k i s h0 h1 hk hs
    obtain ⟨k, rfl⟩ : ∃ m, k = m + 1 := ⟨k - 1, by omega⟩
    obtain rfl : i = l.length := by omega
    simp only [num_Total.l0]
    rw [if_neg (by omega), List.drop_length]
    rfl
  | succ d ih =>
    intro k i s h0 h1 hk hs
    obtain ⟨k, rfl⟩ : ∃ m, k = m + 1 := ⟨k - 1, by omega⟩
    have hi : i < l.length := by omega
    simp only [num_Total.l0]
    rw [if_pos (by omega), if_pos (by omega), if_pos (by omega), rd_get l i hi, nb_add _ _ hs (hl _ (List.getElem_mem hi)), List.drop_eq_getElem_cons hi]
    simp only [Option.bind_some, tot]
    by_cases c : -9223372036854775808 ≤ s + l[i] ∧ s + l[i] ≤ 9223372036854775807
    · rw [if_pos c, if_pos c]
      simp only [if_true]
      rw [nb_wrap _ (by unfold In64; omega)]
      exact ih k (i + 1) (s + l[i]) (by omega) (by omega) (by omega) c
    · rw [if_neg c, if_neg c]
      simp


theorem tot_append (x y : List Int) : ∀ s, tot s (x ++ y) = (tot s x).bind fun t => tot t y := by
  induction x with
  | nil => intro s; rfl
  | cons a x ih =>
    intro s
    simp only [List.cons_append, tot]
    split
    · exact ih _
    · rfl

theorem tot_in (x : List Int) : ∀ s t, In64 s → tot s x = some t → In64 t := by
  induction x with
  | nil => intro s t hs h; simp only [tot, Option.some.injEq] at h; exact h ▸ hs
  | cons a x ih =>
    intro s t hs h
    simp only [tot] at h
    split at h
    · exact ih _ _ ‹_› h
    · cases h

/-- The sum, however great. -/
def all : List Int → Int
  | [] => 0
  | x :: l => x + all l

theorem all_pos (l : List Int) (h : ∀ x ∈ l, 0 ≤ x) : 0 ≤ all l := by
  induction l with
  | nil => simp [all]
  | cons a l ih =>
    have := ih fun x hx => h x (List.mem_cons_of_mem _ hx)
    have := h a (List.mem_cons_self ..)
    simp only [all]; omega

theorem tot_all (l : List Int) (h : ∀ x ∈ l, 0 ≤ x) : ∀ s, 0 ≤ s → s ≤ 9223372036854775807 → tot s l = if s + all l ≤ 9223372036854775807 then some (s + all l) else none := by
  induction l with
  | nil => intro s h0 h1; simp [tot, all, h1]
  | cons a l ih =>
    intro s h0 h1
    have ha := h a (List.mem_cons_self ..)
    have hl : ∀ x ∈ l, 0 ≤ x := fun x hx => h x (List.mem_cons_of_mem _ hx)
    have hp := all_pos l hl
    have e : all (a :: l) = a + all l := rfl
    rw [e]
    simp only [tot]
    by_cases c : s + a ≤ 9223372036854775807
    · rw [if_pos (by omega), ih hl (s + a) (by omega) c, Int.add_assoc]
    · rw [if_neg (by omega), if_neg (by omega)]

theorem all_append (x y : List Int) : all (x ++ y) = all x + all y := by
  induction x with
  | nil => simp [all]
  | cons a x ih => simp only [List.cons_append, all, ih]; omega

theorem all_reverse (l : List Int) : all l.reverse = all l := by
  induction l with
  | nil => rfl
  | cons a l ih => simp only [List.reverse_cons, all_append, all, ih]; omega

theorem nt_mem (l : List Int) (i : Nat) (h : i < l.length) : l[i] ∈ l := List.getElem_mem h

/-- The last part: all are turned, and added. -/
theorem nt_last (l : List Int) (hl : ∀ x ∈ l, In64 x) (hn : l.length ≤ 300) (hpos : ∀ x ∈ l, 0 ≤ x) (x6 x7 x8 : Int)
    (hx : match tot 0 l with | some t => x6 = t ∧ x7 = 0 ∧ x8 ≤ t | none => x6 = 0 ∧ x7 = 3) (k : Nat) (hk : 302 ≤ k) :
    (num_Total.f k l.reverse).bind (fun bt144 => if x7 = bt144.2 then (if x6 = bt144.1 then (if x7 = 0 then (some (decide (x8 ≤ x6))) else (some true)) else (some false)) else (some false)) = some true := by
  unfold num_Total.f
  have hr : tot 0 l.reverse = tot 0 l := by
    rw [tot_all l hpos 0 (by omega) (by omega), tot_all l.reverse (fun x hx => hpos x (List.mem_reverse.1 hx)) 0 (by omega) (by omega), all_reverse]
  have t1 := nr_total l.reverse (fun x hx => hl x (List.mem_reverse.1 hx)) (by rw [List.length_reverse]; omega) l.length k 0 0 (by omega) (by simp) (by omega) (by unfold In64; omega)
  rw [show ((0 : Nat) : Int) = 0 from rfl, List.drop_zero, hr] at t1
  rw [t1]
  cases ht : tot 0 l with
  | none => rw [ht] at hx; obtain ⟨rfl, rfl⟩ := hx; simp
  | some t => rw [ht] at hx; obtain ⟨rfl, rfl, h⟩ := hx; simp [h]

theorem nt_l1 (l : List Int) (hl : ∀ x ∈ l, In64 x) (hn : l.length ≤ 300) (hpos : ∀ x ∈ l, 0 ≤ x) (x6 x7 x8 : Int)
    (hx : match tot 0 l with | some t => x6 = t ∧ x7 = 0 ∧ x8 ≤ t | none => x6 = 0 ∧ x7 = 3) (d : Nat) : ∀ (k : Nat) (i : Int), -1 ≤ i → i < l.length → i + 1 = d → d + 302 < k →
    snafflelaw01_NumTotal.l1 k l x6 x7 x8 (l.drop (i + 1).toNat).reverse i = some true := by
  induction d with
  | zero =>
    intro k i h0 h1 hd hk
    obtain ⟨k, rfl⟩ : ∃ m, k = m + 1 := ⟨k - 1, by omega⟩
    simp only [snafflelaw01_NumTotal.l1]
    rw [if_neg (by omega), show (i + 1).toNat = 0 by omega, List.drop_zero]
    exact nt_last l hl hn hpos x6 x7 x8 hx k (by omega)
  | succ d ih =>
    intro k i h0 h1 hd hk
    obtain ⟨k, rfl⟩ : ∃ m, k = m + 1 := ⟨k - 1, by omega⟩
    simp only [snafflelaw01_NumTotal.l1]
    obtain ⟨j, rfl⟩ : ∃ j : Nat, i = (j : Int) := ⟨i.toNat, by omega⟩
    rw [if_pos (by omega), if_pos (by omega), if_pos (by omega), if_pos (by simp only [List.length_reverse, List.length_drop]; omega), rd_get l j (by omega), nb_wrap _ (by unfold In64; omega)]
    have e : (l.drop ((j : Int) + 1).toNat).reverse ++ [l[j]'(by omega)] = (l.drop ((j : Int) - 1 + 1).toNat).reverse := by
      have e : l.drop j = l[j] :: l.drop (j + 1) := List.drop_eq_getElem_cons (show j < l.length by omega)
      rw [show ((j : Int) - 1 + 1).toNat = j by omega, show ((j : Int) + 1).toNat = j + 1 by omega, e, List.reverse_cons]
    rw [e]
    exact ih k ((j : Int) - 1) (by omega) (by omega) (by omega) (by omega)

theorem nt_l0 (l : List Int) (hl : ∀ x ∈ l, In64 x) (hn : l.length ≤ 300) (x6 x7 x8 : Int)
    (hx : match tot 0 l with | some t => x6 = t ∧ x7 = 0 ∧ ((∀ x ∈ l, 0 ≤ x) → x8 ≤ t) | none => x6 = 0 ∧ x7 = 3) (d : Nat) : ∀ (k i : Nat), i ≤ l.length → l.length - i = d → d + 700 < k → (∀ x ∈ l.take i, 0 ≤ x) →
    snafflelaw01_NumTotal.l0 k l x6 x7 x8 (i : Int) = some true := by
  induction d with
  | zero =>
    intro k i h0 h1 hk hp
    obtain ⟨k, rfl⟩ : ∃ m, k = m + 1 := ⟨k - 1, by omega⟩
    simp only [snafflelaw01_NumTotal.l0]
    obtain rfl : i = l.length := by omega
    rw [List.take_length] at hp
    rw [if_neg (by omega), nb_wrap _ (by unfold In64; omega)]
    have := nt_l1 l hl hn hp x6 x7 x8 (by cases ht : tot 0 l <;> (rw [ht] at hx; first | exact hx | exact ⟨hx.1, hx.2.1, hx.2.2 hp⟩)) l.length k ((l.length : Int) - 1) (by omega) (by omega) (by omega) (by omega)
    rw [show ((l.length : Int) - 1 + 1).toNat = l.length by omega, List.drop_length, List.reverse_nil] at this
    exact this
  | succ d ih =>
    intro k i h0 h1 hk hp
    obtain ⟨k, rfl⟩ : ∃ m, k = m + 1 := ⟨k - 1, by omega⟩
    have hi : i < l.length := by omega
    simp only [snafflelaw01_NumTotal.l0]
    rw [if_pos (by omega), if_pos (by omega), rd_get l i hi]
    by_cases c : l[i] < 0
    · rw [if_pos c]
    · rw [if_neg c, nb_wrap _ (by unfold In64; omega)]
      refine ih k (i + 1) (by omega) (by omega) (by omega) ?_
      intro x hx
      rw [List.take_succ_eq_append_getElem hi, List.mem_append] at hx
      rcases hx with hx | hx
      · exact hp x hx
      · simp only [List.mem_singleton] at hx; omega

theorem NumTotal : snafflelaw01_NumTotal.Pure := by
  intro l cut _ _ wl wc
  have hl : ∀ x ∈ l, In64 x := fun x hx => nb_i64 (wl x hx)
  have hc : 0 ≤ cut ∧ cut ≤ 65535 := by simpa [Lit.wf, IntKind.min, IntKind.max, IntKind.signed, IntKind.bits] using wc
  refine ⟨2000, ?_⟩
  unfold snafflelaw01_NumTotal.f
  rw [nb_awake 1995]
  simp only [Option.bind_some, if_true]
  by_cases hn : (l.length : Int) > 300
  · rw [if_pos hn]
  · rw [if_neg hn, nb_wrap cut (by unfold In64; omega), nb_wrap ((l.length : Int) + 1) (by unfold In64; omega)]
    have hn' : l.length ≤ 300 := by omega
    rw [if_neg (by omega), Int.tmod_eq_emod_of_nonneg hc.1]
    obtain ⟨j, hj, hj'⟩ : ∃ j : Nat, cut % ((l.length : Int) + 1) = (j : Int) ∧ j ≤ l.length :=
      ⟨(cut % ((l.length : Int) + 1)).toNat, by have := Int.emod_nonneg cut (show ((l.length : Int) + 1) ≠ 0 by omega); omega,
        by have := Int.emod_lt_of_pos cut (show (0 : Int) < (l.length : Int) + 1 by omega); omega⟩
    rw [hj, Int.toNat_natCast]
    unfold num_Total.f
    have z : ((0 : Nat) : Int) = 0 := rfl
    have t1 := nr_total l hl (by omega) l.length 2000 0 0 (by omega) (by omega) (by omega) (by unfold In64; omega)
    have t2 := nr_total (l.take j) (fun x hx => hl x (List.mem_of_mem_take hx)) (by rw [List.length_take]; omega) (l.take j).length 2000 0 0 (by omega) (by omega) (by rw [List.length_take]; omega) (by unfold In64; omega)
    rw [z, List.drop_zero] at t1 t2
    rw [t1, t2]
    simp only [Option.bind_some]
    rw [if_pos (by omega), if_pos (by omega)]
    have hsplit : tot 0 l = (tot 0 (l.take j)).bind fun t => tot t (l.drop j) := by rw [← tot_append, List.take_append_drop]
    cases hh : tot 0 (l.take j) with
    | none =>
      rw [hh] at hsplit
      simp [hsplit]
    | some h =>
      simp only [if_true]
      have hin := tot_in _ _ _ (by unfold In64; omega) hh
      have t3 := nr_total (h :: l.drop j) (fun x hx => by
        rcases List.mem_cons.1 hx with rfl | hx
        · exact hin
        · exact hl x (List.mem_of_mem_drop hx)) (by simp only [List.length_cons, List.length_drop]; omega) (h :: l.drop j).length 2000 0 0 (by omega) (by omega) (by simp only [List.length_cons, List.length_drop]; omega) (by unfold In64; omega)
      rw [z, List.drop_zero] at t3
      have e : tot 0 (h :: l.drop j) = tot 0 l := by
        rw [hsplit, hh]
        simp only [tot, Option.bind_some, Int.zero_add]
        unfold In64 at hin
        rw [if_pos hin]
      rw [e] at t3
      rw [if_pos (by simp only [List.length_cons, List.length_nil, List.length_drop]; omega), List.singleton_append, t3]
      simp only [Option.bind_some]
      have fin : ∀ x6 x7 : Int, (match tot 0 l with | some t => x6 = t ∧ x7 = 0 ∧ ((∀ x ∈ l, 0 ≤ x) → h ≤ t) | none => x6 = 0 ∧ x7 = 3) →
          snafflelaw01_NumTotal.j0 2000 l x6 x7 h false = some true := by
        intro x6 x7 hx
        simp only [snafflelaw01_NumTotal.j0, Bool.false_eq_true, if_false]
        exact nt_l0 l hl hn' x6 x7 h hx l.length 1999 0 (by omega) (by omega) (by omega) (by simp)
      cases ht : tot 0 l with
      | none =>
        simp only [if_true]
        rw [show ((0 : Int) != 0) = false by decide]
        exact fin 0 3 (by rw [ht]; exact ⟨rfl, rfl⟩)
      | some t =>
        simp only [if_true]
        rw [show (t != t) = false by simp]
        refine fin t 0 ?_
        rw [ht]
        refine ⟨rfl, rfl, fun hp => ?_⟩
        have h1 := tot_all l hp 0 (by omega) (by omega)
        have h2 := tot_all (l.take j) (fun x hx => hp x (List.mem_of_mem_take hx)) 0 (by omega) (by omega)
        rw [ht] at h1
        rw [hh] at h2
        have hsum : all l = all (l.take j) + all (l.drop j) := by rw [← all_append, List.take_append_drop]
        have hd := all_pos (l.drop j) (fun x hx => hp x (List.mem_of_mem_drop hx))
        split at h1
        · split at h2
          · simp only [Option.some.injEq] at h1 h2; omega
          · cases h2
        · cases h1

end Go.Proofs.Ytgelpkghkgagfaa.Pure

namespace Go.Proofs.Ytgelpkghkgagfaa.PrintWords
/-- The word's other place, by which the row calls it. -/
abbrev sized_ints := @Go.Proofs.YtgelpkghkgagfaaW.PrintWords.sized_ints
end Go.Proofs.Ytgelpkghkgagfaa.PrintWords
