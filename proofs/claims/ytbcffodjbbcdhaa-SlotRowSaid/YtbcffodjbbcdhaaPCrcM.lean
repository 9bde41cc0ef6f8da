/- crc: the plain law. -/
import Derived.Laws.BitsAllLaws
namespace Go.AI

def half (n : Nat) : Nat := if n % 2 = 1 then n / 2 ^^^ 3988292384 else n / 2
def halves : Nat → Nat → Nat
  | 0, n => n
  | k + 1, n => halves k (half n)
theorem half_lt {n : Nat} (h : n < 4294967296) : half n < 4294967296 := by
  unfold half
  split
  · exact Nat.xor_lt_two_pow (n := 32) (by omega) (by omega)
  · omega
theorem halves_lt : ∀ (k : Nat) {n : Nat}, n < 4294967296 → halves k n < 4294967296
  | 0, _, h => h
  | k + 1, _, h => halves_lt k (half_lt h)
theorem xor_lt {a b : Nat} (ha : a < 4294967296) (hb : b < 4294967296) : a ^^^ b < 4294967296 := Nat.xor_lt_two_pow (n := 32) (by omega) (by omega)
theorem half_xor (a b : Nat) : half (a ^^^ b) = half a ^^^ half b := by
  have h1 : (a ^^^ b) / 2 = a / 2 ^^^ b / 2 := Nat.xor_div_two
  have h2 : (a ^^^ b) % 2 = (a + b) % 2 := by
    have h := Nat.testBit_xor a b 0
    simp only [Nat.testBit_zero] at h
    rcases Nat.mod_two_eq_zero_or_one a with ha | ha <;> rcases Nat.mod_two_eq_zero_or_one b with hb | hb <;> rcases Nat.mod_two_eq_zero_or_one (a ^^^ b) with hc | hc <;> first | omega | (exfalso; rw [ha, hb, hc] at h; revert h; decide)
  unfold half
  rw [h1, h2]
  generalize a / 2 = x
  generalize b / 2 = y
  generalize 3988292384 = r
  rcases Nat.mod_two_eq_zero_or_one a with ha | ha <;> rcases Nat.mod_two_eq_zero_or_one b with hb | hb
  · rw [if_neg (by omega), if_neg (by omega), if_neg (by omega)]
  · rw [if_pos (by omega), if_neg (by omega), if_pos (by omega), Nat.xor_assoc]
  · rw [if_pos (by omega), if_pos (by omega), if_neg (by omega), Nat.xor_assoc, Nat.xor_assoc, Nat.xor_comm y r]
  · rw [if_neg (by omega), if_pos (by omega), if_pos (by omega)]
    rw [Nat.xor_assoc, ← Nat.xor_assoc r y r, Nat.xor_comm r y, Nat.xor_assoc y r r, Nat.xor_self, Nat.xor_zero]

theorem halves_xor : ∀ (k a b : Nat), halves k (a ^^^ b) = halves k a ^^^ halves k b
  | 0, _, _ => rfl
  | k + 1, a, b => by simp only [halves, half_xor, halves_xor k]

theorem halves_even : ∀ (k q : Nat), halves k (2 ^ k * q) = q
  | 0, q => by simp [halves]
  | k + 1, q => by
    have : half (2 ^ (k + 1) * q) = 2 ^ k * q := by
      rw [Nat.pow_succ, Nat.mul_comm (2 ^ k) 2, Nat.mul_assoc]
      unfold half
      rw [if_neg (by omega)]
      omega
    simp only [halves, this, halves_even k]

theorem halves_add : ∀ (j k n : Nat), halves (j + k) n = halves k (halves j n)
  | 0, k, n => by simp [halves]
  | j + 1, k, n => by
    rw [show j + 1 + k = (j + k) + 1 by omega]
    simp only [halves, halves_add j k]

/-- Half a byte at once. -/
theorem halves_table (a : Nat) : halves 4 (a % 16) ^^^ a / 16 = halves 4 a := by
  have h : a = a % 16 ^^^ 2 ^ 4 * (a / 16) := by
    have e := Nat.two_pow_add_eq_or_of_lt (i := 4) (b := a % 16) (Nat.mod_lt _ (by omega)) (a / 16)
    have h2 : (2 ^ 4 * (a / 16)) ||| (a % 16) = (2 ^ 4 * (a / 16)) ^^^ (a % 16) := by
      apply Nat.eq_of_testBit_eq
      intro i
      rw [Nat.testBit_or, Nat.testBit_xor, Nat.testBit_two_pow_mul]
      by_cases hi : 4 ≤ i
      · have : (a % 16).testBit i = false := Nat.testBit_lt_two_pow (Nat.lt_of_lt_of_le (Nat.mod_lt _ (by omega)) (Nat.pow_le_pow_right (n := 2) (by omega) hi))
        simp [this]
      · simp [hi]
    rw [Nat.xor_comm, ← h2, ← e]
    omega
  conv => rhs; rw [h, halves_xor, halves_even]

theorem xor_cancel (a b : Nat) : a ^^^ (a ^^^ b) = b := by rw [← Nat.xor_assoc, Nat.xor_self, Nat.zero_xor]

theorem half_inj {a b : Nat} (ha : a < 4294967296) (hb : b < 4294967296) (h : half a = half b) : a = b := by
  have bit : ∀ x, x < 4294967296 → (half x).testBit 31 = decide (x % 2 = 1) := by
    intro x hx
    have h0 : (x / 2).testBit 31 = false := Nat.testBit_lt_two_pow (by omega)
    unfold half
    split
    · rename_i h1
      rw [Nat.testBit_xor, h0, h1]
      decide
    · rename_i h1
      rw [h0]
      simp [h1]
  have hp : (a % 2 = 1) ↔ (b % 2 = 1) := by
    have := bit a ha
    rw [h, bit b hb] at this
    simpa using this.symm
  have hq : a / 2 = b / 2 := by
    unfold half at h
    by_cases h1 : a % 2 = 1
    · rw [if_pos h1, if_pos (hp.1 h1)] at h
      generalize 3988292384 = r at h
      have h2 : (a / 2 ^^^ r) ^^^ r = (b / 2 ^^^ r) ^^^ r := by rw [h]
      rwa [Nat.xor_assoc, Nat.xor_assoc, Nat.xor_self, Nat.xor_zero, Nat.xor_zero] at h2
    · rw [if_neg h1, if_neg (fun h2 => h1 (hp.2 h2))] at h
      exact h
  by_cases h1 : a % 2 = 1
  · have := hp.1 h1; omega
  · have : ¬ b % 2 = 1 := fun h2 => h1 (hp.2 h2)
    omega

theorem halves_inj : ∀ (k : Nat) {a b : Nat}, a < 4294967296 → b < 4294967296 → halves k a = halves k b → a = b
  | 0, _, _, _, _, h => h
  | k + 1, _, _, ha, hb, h => half_inj ha hb (halves_inj k (half_lt ha) (half_lt hb) h)


def stp (n c : Nat) : Nat := halves 8 (n ^^^ c)
theorem stp_lt {n c : Nat} (h : n < 4294967296) (hc : c < 256) : stp n c < 4294967296 := halves_lt 8 (xor_lt h (by omega))
def moreN (s : Nat) (ns : List Nat) : Nat := 4294967295 ^^^ ns.foldl stp (4294967295 ^^^ s)
theorem fold_lt : ∀ (ns : List Nat) {a : Nat}, a < 4294967296 → (∀ n ∈ ns, n < 256) → ns.foldl stp a < 4294967296
  | [], _, h, _ => h
  | n :: ns, _, h, hb => fold_lt ns (stp_lt h (hb n (by simp))) (fun m hm => hb m (by simp [hm]))
theorem more_lt {s : Nat} {ns : List Nat} (hs : s < 4294967296) (hb : ∀ n ∈ ns, n < 256) : moreN s ns < 4294967296 := xor_lt (by omega) (fold_lt ns (xor_lt (by omega) hs) hb)
theorem stp_inj {a b c : Nat} (ha : a < 4294967296) (hb : b < 4294967296) (hc : c < 256) (h : stp a c = stp b c) : a = b := by
  have h1 : a ^^^ c = b ^^^ c := halves_inj 8 (xor_lt ha (by omega)) (xor_lt hb (by omega)) h
  have h2 : (a ^^^ c) ^^^ c = (b ^^^ c) ^^^ c := by rw [h1]
  rwa [Nat.xor_assoc, Nat.xor_assoc, Nat.xor_self, Nat.xor_zero, Nat.xor_zero] at h2
theorem fold_inj : ∀ (ns : List Nat) {a b : Nat}, a < 4294967296 → b < 4294967296 → (∀ n ∈ ns, n < 256) → ns.foldl stp a = ns.foldl stp b → a = b
  | [], _, _, _, _, _, h => h
  | n :: ns, _, _, ha, hb, hn, h => by
    have hc := hn n (by simp)
    exact stp_inj ha hb hc (fold_inj ns (stp_lt ha hc) (stp_lt hb hc) (fun m hm => hn m (by simp [hm])) h)

theorem xor4 (a b c d : Nat) : (a ^^^ b) ^^^ (c ^^^ d) = (a ^^^ c) ^^^ (b ^^^ d) := by
  rw [Nat.xor_assoc, Nat.xor_assoc, ← Nat.xor_assoc b c d, Nat.xor_comm b c, Nat.xor_assoc c b d]
theorem stp_xor (n m c d : Nat) : stp (n ^^^ m) (c ^^^ d) = stp n c ^^^ stp m d := by
  unfold stp
  rw [xor4, halves_xor]

/-- What is turned, turns the sum by itself. -/
theorem fold_xor : ∀ (a b : List Nat) (p q : Nat), a.length = b.length → (List.zipWith (· ^^^ ·) a b).foldl stp (p ^^^ q) = a.foldl stp p ^^^ b.foldl stp q
  | [], [], p, q, _ => rfl
  | x :: a, y :: b, p, q, h => by
    simp only [List.zipWith_cons_cons, List.foldl_cons, stp_xor]
    exact fold_xor a b _ _ (by simpa using h)

def num : List Nat → Nat
  | [] => 0
  | c :: l => c ^^^ 256 * num l
theorem fold_num : ∀ (y : List Nat) (s : Nat), y.foldl stp s = halves (8 * y.length) (s ^^^ num y)
  | [], s => by simp [num, halves]
  | c :: l, s => by
    simp only [List.foldl_cons, fold_num l, num, List.length_cons]
    rw [show 8 * (l.length + 1) = 8 + 8 * l.length by omega, halves_add]
    congr 1
    rw [← Nat.xor_assoc, halves_xor, show (256 : Nat) = 2 ^ 8 by rfl, halves_even]
    rfl
theorem num_lt : ∀ (y : List Nat), (∀ c ∈ y, c < 256) → num y < 256 ^ y.length
  | [], _ => by simp [num]
  | c :: l, h => by
    have h1 := num_lt l (fun x hx => h x (by simp [hx]))
    have h2 := h c (by simp)
    simp only [num, List.length_cons]
    have : (256 : Nat) ^ (l.length + 1) = 2 ^ (8 * (l.length + 1)) := by rw [Nat.pow_mul]
    rw [this]
    refine Nat.xor_lt_two_pow ?_ ?_
    · exact Nat.lt_of_lt_of_le h2 (by rw [show (256 : Nat) = 2 ^ 8 by rfl]; exact Nat.pow_le_pow_right (by omega) (by omega))
    · rw [← this, Nat.pow_succ]
      have := Nat.mul_lt_mul_of_pos_left h1 (show 0 < 256 by omega)
      omega
theorem num_zero : ∀ (y : List Nat), (∀ c ∈ y, c < 256) → num y = 0 → ∀ c ∈ y, c = 0
  | [], _, _, c, hc => by cases hc
  | d :: l, h, h0, c, hc => by
    simp only [num] at h0
    have e : d = 256 * num l := by
      have := congrArg (fun z => z ^^^ 256 * num l) h0
      simpa [Nat.xor_assoc] using this
    have hd := h d (by simp)
    have h1 : num l = 0 := by omega
    rcases List.mem_cons.1 hc with rfl | hc
    · omega
    · exact num_zero l (fun x hx => h x (by simp [hx])) h1 c hc
/-- **Up to four bytes that are turned turn the sum, unless nothing is turned.** -/
theorem burst {y : List Nat} (hy : ∀ c ∈ y, c < 256) (h4 : y.length ≤ 4) (h : y.foldl stp 0 = 0) : ∀ c ∈ y, c = 0 := by
  refine num_zero y hy ?_
  rw [fold_num, Nat.zero_xor] at h
  have hl := num_lt y hy
  have hp : (256 : Nat) ^ y.length ≤ 256 ^ 4 := Nat.pow_le_pow_right (by omega) h4
  have hz : ∀ k, halves k 0 = 0 := by
    intro k
    induction k with
    | zero => rfl
    | succ k ih => simpa [halves, half] using ih
  exact halves_inj (8 * y.length) (by omega) (by omega) (h.trans (hz _).symm)
end Go.AI
