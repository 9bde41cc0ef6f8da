/- crc: the plain law. -/
import Derived.Test.YtgelpkghkgagfaaCrcA
namespace Go.AI
set_option linter.unusedVariables false
set_option linter.unusedSimpArgs false

theorem half_xor (a b : Nat) : half (a ^^^ b) = half a ^^^ half b := by
  have h1 : (a ^^^ b) / 2 = a / 2 ^^^ b / 2 := Nat.xor_div_two
  have h2 : (a ^^^ b) % 2 = (a + b) % 2 := by
    have h := Nat.testBit_xor a b 0
    simp only [Nat.testBit_zero] at h
    rcases Nat.mod_two_eq_zero_or_one a with ha | ha <;> rcases Nat.mod_two_eq_zero_or_one b with hb | hb <;> rcases Nat.mod_two_eq_zero_or_one (a ^^^ b) with hc | hc <;> first | omega | (exfalso; rw [ha, hb, hc] at h; revert h; decide)
  unfold half
  rw [h1, h2]
  generalize a / 2 = x
  generalize b / 2 = y
  generalize 3988292384 = r
  rcases Nat.mod_two_eq_zero_or_one a with ha | ha <;> rcases Nat.mod_two_eq_zero_or_one b with hb | hb
  · rw [if_neg (by omega), if_neg (by omega), if_neg (by omega)]
  · rw [if_pos (by omega), if_neg (by omega), if_pos (by omega), Nat.xor_assoc]
  · rw [if_pos (by omega), if_pos (by omega), if_neg (by omega), Nat.xor_assoc, Nat.xor_assoc, Nat.xor_comm y r]
  · rw [if_neg (by omega), if_pos (by omega), if_pos (by omega)]
    rw [Nat.xor_assoc, ← Nat.xor_assoc r y r, Nat.xor_comm r y, Nat.xor_assoc y r r, Nat.xor_self, Nat.xor_zero]

theorem halves_xor : ∀ (k a b : Nat), halves k (a ^^^ b) = halves k a ^^^ halves k b
  | 0, _, _ => rfl
  | k + 1, a, b => by simp only [halves, half_xor, halves_xor k]

theorem halves_even : ∀ (k q : Nat), halves k (2 ^ k * q) = q
  | 0, q => by simp [halves]
  | k + 1, q => by
    have : half (2 ^ (k + 1) * q) = 2 ^ k * q := by
      rw [Nat.pow_succ, Nat.mul_comm (2 ^ k) 2, Nat.mul_assoc]
      unfold half
      rw [if_neg (by omega)]
      omega
    simp only [halves, this, halves_even k]

theorem halves_add : ∀ (j k n : Nat), halves (j + k) n = halves k (halves j n)
  | 0, k, n => by simp [halves]
  | j + 1, k, n => by
    rw [show j + 1 + k = (j + k) + 1 by omega]
    simp only [halves, halves_add j k]

/-- Half a byte at once. -/
theorem halves_table (a : Nat) : halves 4 (a % 16) ^^^ a / 16 = halves 4 a := by
  have h : a = a % 16 ^^^ 2 ^ 4 * (a / 16) := by
    have e := Nat.two_pow_add_eq_or_of_lt (i := 4) (b := a % 16) (Nat.mod_lt _ (by omega)) (a / 16)
    have h2 : (2 ^ 4 * (a / 16)) ||| (a % 16) = (2 ^ 4 * (a / 16)) ^^^ (a % 16) := by
      apply Nat.eq_of_testBit_eq
      intro i
      rw [Nat.testBit_or, Nat.testBit_xor, Nat.testBit_two_pow_mul]
      by_cases hi : 4 ≤ i
      · have : (a % 16).testBit i = false := Nat.testBit_lt_two_pow (Nat.lt_of_lt_of_le (Nat.mod_lt _ (by omega)) (Nat.pow_le_pow_right (n := 2) (by omega) hi))
        simp [this]
      · simp [hi]
    rw [Nat.xor_comm, ← h2, ← e]
    omega
  conv => rhs; rw [h, halves_xor, halves_even]

theorem step_eq (n c : Nat) : byteStep n c = refStep n c := by
  unfold byteStep refStep
  simp only [halves_table]
  exact (halves_add 4 4 _).symm

theorem more_eq (s : Nat) (ns : List Nat) : moreN s ns = refN s ns := by
  have : byteStep = refStep := by funext n c; exact step_eq n c
  unfold moreN refN
  rw [this, Nat.xor_comm, Nat.xor_comm 4294967295 s]

end Go.AI
