/- Numbers as bytes, the highest first. -/
import Derived.Test.YtbcffodjbbcdhaaXBase
namespace Go.AI
def be : Nat → Nat → List Nat
  | 0, _ => []
  | k + 1, n => n / 256 ^ k % 256 :: be k n
def vl (l : List Nat) : Nat := l.foldl (fun a b => a * 256 + b) 0
theorem be_length : ∀ k n : Nat, (be k n).length = k
  | 0, _ => rfl
  | k + 1, n => by simp [be, be_length k n]
theorem be_lt : ∀ (k n : Nat), ∀ x ∈ be k n, x < 256
  | 0, _, x, h => by cases h
  | k + 1, n, x, h => by
    rcases List.mem_cons.1 h with rfl | h
    · omega
    · exact be_lt k n x h
theorem vl_fold : ∀ (l : List Nat) (a : Nat), l.foldl (fun a b => a * 256 + b) a = a * 256 ^ l.length + vl l
  | [], a => by simp [vl]
  | b :: l, a => by
    show l.foldl (fun a b => a * 256 + b) (a * 256 + b) = a * 256 ^ (l.length + 1) + l.foldl (fun a b => a * 256 + b) (0 * 256 + b)
    rw [vl_fold l (a * 256 + b), vl_fold l (0 * 256 + b), Nat.pow_succ]
    have : (a * 256 + b) * 256 ^ l.length = a * (256 ^ l.length * 256) + b * 256 ^ l.length := by rw [Nat.add_mul, Nat.mul_assoc, Nat.mul_comm 256]
    rw [this]
    simp only [Nat.zero_mul, Nat.zero_add]
    omega
theorem vl_cons (b : Nat) (l : List Nat) : vl (b :: l) = b * 256 ^ l.length + vl l := by
  have := vl_fold l (0 * 256 + b)
  unfold vl at *
  simp only [List.foldl_cons]
  rw [this]
  simp
theorem vl_append (a b : List Nat) : vl (a ++ b) = vl a * 256 ^ b.length + vl b := by
  have := vl_fold b (vl a)
  unfold vl at *
  rw [List.foldl_append, this]
theorem vl_lt : ∀ {l : List Nat}, (∀ x ∈ l, x < 256) → vl l < 256 ^ l.length
  | [], _ => by simp [vl]
  | b :: l, h => by
    have h1 := h b (List.mem_cons_self ..)
    have h2 := vl_lt (l := l) fun x hx => h x (List.mem_cons_of_mem _ hx)
    rw [vl_cons, List.length_cons, Nat.pow_succ]
    have : b * 256 ^ l.length ≤ 255 * 256 ^ l.length := Nat.mul_le_mul_right _ (by omega)
    omega
theorem vl_be : ∀ (k n : Nat), vl (be k n) = n % 256 ^ k
  | 0, n => by simp [be, vl, Nat.mod_one]
  | k + 1, n => by
    rw [be, vl_cons, be_length, vl_be k n, Nat.mod_pow_succ, Nat.mul_comm (256 ^ k)]
    omega
theorem be_add : ∀ (k m q n : Nat), k ≤ m → be k (q * 256 ^ m + n) = be k n
  | 0, _, _, _, _ => rfl
  | k + 1, m, q, n, h => by
    rw [be, be, be_add k m q n (by omega)]
    congr 1
    have e : q * 256 ^ m = (q * 256 ^ (m - (k + 1)) * 256) * 256 ^ k := by
      rw [Nat.mul_assoc, Nat.mul_assoc, ← Nat.pow_succ', ← Nat.pow_add]
      congr 2
      omega
    rw [e, Nat.add_comm, Nat.add_mul_div_right _ _ (Nat.pow_pos (by decide)), Nat.add_mul_mod_self_right]
theorem be_vl : ∀ {l : List Nat}, (∀ x ∈ l, x < 256) → be l.length (vl l) = l
  | [], _ => rfl
  | b :: l, h => by
    have h1 := h b (List.mem_cons_self ..)
    have hl : ∀ x ∈ l, x < 256 := fun x hx => h x (List.mem_cons_of_mem _ hx)
    have h2 := vl_lt hl
    rw [vl_cons, List.length_cons, be, be_add _ _ _ _ (Nat.le_refl _), be_vl hl]
    congr 1
    rw [Nat.add_comm, Nat.add_mul_div_right _ _ (Nat.pow_pos (by decide)), Nat.div_eq_of_lt h2]
    omega
theorem fdiv_pow (n k : Nat) : Int.fdiv (n : Int) (2 ^ k) = ((n / 2 ^ k : Nat) : Int) := by
  rw [Int.fdiv_eq_ediv_of_nonneg _ (Int.le_of_lt (Int.pow_pos (by decide)))]
  norm_cast
theorem u8_nat (n : Nat) : IntKind.wrap .u8 (n : Int) = ((n % 256 : Nat) : Int) := by
  rw [IntKind.wrap_u8']; rfl
theorem app_ints {a b : List Nat} (h : a.length + b.length ≤ 1000000) : appX (ints a) (ints b) 1 = some (ints (a ++ b)) := by
  have : maxLen = 9223372036854775807 ∨ True := .inr trivial
  rw [appX_ok (by rw [ints_length, ints_length]; omega) (by rw [ints_length, ints_length]; unfold maxLen; omega), ints_append]
/-- A number is put, byte after byte. -/
theorem put_loop (n : Nat) : ∀ (k : Nat) (l : List Nat), k ≤ 8 → l.length + k ≤ 1000 →
    loopO (fun (v : Int × (List Int × Unit)) => bif (decide (v.1 ≥ 0)) then bif (decide (0 ≤ (IntKind.wrap .i64 (8 * v.1)))) then ((appX v.2.1 ((IntKind.wrap .u8 (Int.fdiv (n : Int) (2 ^ (Min.min (Int.toNat (IntKind.wrap .i64 (8 * v.1))) 64)))) :: []) 1)).bind (fun (w : (List Int)) => some (.inl ((IntKind.wrap .i64 (v.1 - 1)), (w, ())))) else none else (some v.2).map .inr) ((k : Int) - 1, (ints l, ()))
    = some (ints (l ++ be k n), ())
  | 0, l, _, _ => by
    refine loopO_out ?_
    rw [show ((0 : Nat) : Int) - 1 = -1 from rfl]
    simp [be]
  | k + 1, l, hk, hl => by
    have e : ((k + 1 : Nat) : Int) - 1 = (k : Int) := by omega
    have e8 : IntKind.wrap .i64 (8 * (k : Int)) = ((8 * k : Nat) : Int) := by rw [wrap_i64_in (by omega) (by omega)]; norm_cast
    have em : Min.min (Int.toNat ((8 * k : Nat) : Int)) 64 = 8 * k := by rw [Int.toNat_natCast]; omega
    have ep : (2 : Nat) ^ (8 * k) = 256 ^ k := by rw [Nat.pow_mul]
    have := put_loop n k (l ++ [n / 256 ^ k % 256]) (by omega) (by simp; omega)
    rw [e]
    refine (loopO_next (t' := ((k : Int) - 1, (ints (l ++ [n / 256 ^ k % 256]), ()))) ?_).trans ?_
    · have d1 : decide ((k : Int) ≥ 0) = true := by simp
      have d2 : decide ((0 : Int) ≤ ((8 * k : Nat) : Int)) = true := decide_eq_true (by omega)
      have ew : IntKind.wrap .i64 ((k : Int) - 1) = (k : Int) - 1 := wrap_i64_in (by omega) (by omega)
      have ea := app_ints (a := l) (b := [n / 256 ^ k % 256]) (by simp; omega)
      simp only [e8, em, d1, d2, cond_true, fdiv_pow, ep, u8_nat, ew]
      rw [show (((n / 256 ^ k % 256 : Nat) : Int) :: [] : List Int) = ints [n / 256 ^ k % 256] from rfl, ea]
      rfl
    · rw [this]
      simp [be]
end Go.AI
