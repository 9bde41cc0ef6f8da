/- crc: one text behind another; unlike sums stay unlike. -/
import Derived.Test.YtgelpkghkgagfaaCrcM
namespace Go.AI
set_option linter.unusedVariables false
set_option linter.unusedSimpArgs false

theorem xor_cancel (a b : Nat) : a ^^^ (a ^^^ b) = b := by rw [← Nat.xor_assoc, Nat.xor_self, Nat.zero_xor]

theorem more_append (s : Nat) (a b : List Nat) : moreN s (a ++ b) = moreN (moreN s a) b := by
  unfold moreN
  rw [List.foldl_append, xor_cancel]

theorem more_nil (s : Nat) : moreN s [] = s := by
  unfold moreN
  exact xor_cancel _ _

theorem half_inj {a b : Nat} (ha : a < 4294967296) (hb : b < 4294967296) (h : half a = half b) : a = b := by
  have bit : ∀ x, x < 4294967296 → (half x).testBit 31 = decide (x % 2 = 1) := by
    intro x hx
    have h0 : (x / 2).testBit 31 = false := Nat.testBit_lt_two_pow (by omega)
    unfold half
    split
    · rename_i h1
      rw [Nat.testBit_xor, h0, h1]
      decide
    · rename_i h1
      rw [h0]
      simp [h1]
  have hp : (a % 2 = 1) ↔ (b % 2 = 1) := by
    have := bit a ha
    rw [h, bit b hb] at this
    simpa using this.symm
  have hq : a / 2 = b / 2 := by
    unfold half at h
    by_cases h1 : a % 2 = 1
    · rw [if_pos h1, if_pos (hp.1 h1)] at h
      generalize 3988292384 = r at h
      have h2 : (a / 2 ^^^ r) ^^^ r = (b / 2 ^^^ r) ^^^ r := by rw [h]
      rwa [Nat.xor_assoc, Nat.xor_assoc, Nat.xor_self, Nat.xor_zero, Nat.xor_zero] at h2
    · rw [if_neg h1, if_neg (fun h2 => h1 (hp.2 h2))] at h
      exact h
  by_cases h1 : a % 2 = 1
  · have := hp.1 h1; omega
  · have : ¬ b % 2 = 1 := fun h2 => h1 (hp.2 h2)
    omega

theorem halves_inj : ∀ (k : Nat) {a b : Nat}, a < 4294967296 → b < 4294967296 → halves k a = halves k b → a = b
  | 0, _, _, _, _, h => h
  | k + 1, _, _, ha, hb, h => half_inj ha hb (halves_inj k (half_lt ha) (half_lt hb) h)

theorem step_inj {a b c : Nat} (ha : a < 4294967296) (hb : b < 4294967296) (hc : c < 256) (h : byteStep a c = byteStep b c) : a = b := by
  rw [step_eq, step_eq] at h
  have h1 : a ^^^ c = b ^^^ c := halves_inj 8 (xor_lt ha (by omega)) (xor_lt hb (by omega)) h
  have h2 : (a ^^^ c) ^^^ c = (b ^^^ c) ^^^ c := by rw [h1]
  rwa [Nat.xor_assoc, Nat.xor_assoc, Nat.xor_self, Nat.xor_zero, Nat.xor_zero] at h2

theorem fold_lt : ∀ (ns : List Nat) {a : Nat}, a < 4294967296 → (∀ n ∈ ns, n < 256) → ns.foldl byteStep a < 4294967296
  | [], _, h, _ => h
  | n :: ns, _, h, hb => fold_lt ns (byteStep_lt h (hb n (by simp))) (fun m hm => hb m (by simp [hm]))

theorem fold_inj : ∀ (ns : List Nat) {a b : Nat}, a < 4294967296 → b < 4294967296 → (∀ n ∈ ns, n < 256) → ns.foldl byteStep a = ns.foldl byteStep b → a = b
  | [], _, _, _, _, _, h => h
  | n :: ns, _, _, ha, hb, hn, h => by
    have hc := hn n (by simp)
    exact step_inj ha hb hc (fold_inj ns (byteStep_lt ha hc) (byteStep_lt hb hc) (fun m hm => hn m (by simp [hm])) h)

theorem more_lt {s : Nat} {ns : List Nat} (hs : s < 4294967296) (hb : ∀ n ∈ ns, n < 256) : moreN s ns < 4294967296 := xor_lt (by omega) (fold_lt ns (xor_lt (by omega) hs) hb)

theorem more_inj {s t : Nat} {ns : List Nat} (hs : s < 4294967296) (ht : t < 4294967296) (hb : ∀ n ∈ ns, n < 256) (h : moreN s ns = moreN t ns) : s = t := by
  unfold moreN at h
  have h1 := congrArg (4294967295 ^^^ ·) h
  simp only [xor_cancel] at h1
  have h2 := fold_inj ns (xor_lt (by omega) hs) (xor_lt (by omega) ht) hb h1
  have h3 := congrArg (4294967295 ^^^ ·) h2
  simpa only [xor_cancel] using h3

end Go.AI
