/- frame: a frame as bytes, on both sides. -/
import Derived.Test.YthmgondhniecnaaXCrc
import Derived.Test.YthmgondhniecnaaXBytes
namespace Go.AI
theorem u64_nat (x : Int) : ∃ n : Nat, IntKind.wrap .u64 x = (n : Int) ∧ n < 18446744073709551616 := by
  have h : IntKind.wrap .u64 x = x % 18446744073709551616 := by simp [IntKind.wrap, IntKind.bits, IntKind.signed]
  exact ⟨(x % 18446744073709551616).toNat, by rw [h]; omega, by omega⟩
theorem four_ints (n : Nat) : ((IntKind.wrap .u8 (Int.fdiv (n : Int) (2 ^ 24))) :: ((IntKind.wrap .u8 (Int.fdiv (n : Int) (2 ^ 16))) :: ((IntKind.wrap .u8 (Int.fdiv (n : Int) (2 ^ 8))) :: ((IntKind.wrap .u8 (n : Int)) :: [])))) = ints (be 4 n) := by
  simp only [fdiv_pow, u8_nat, be, ints, List.map_cons, List.map_nil, Nat.pow_zero, Nat.div_one, Nat.reducePow]
theorem eight_ints (n : Nat) : be 4 (n / 2 ^ 32) ++ be 4 n = be 8 n := by
  simp only [be, List.cons_append, List.nil_append, Nat.div_div_eq_div_mul, Nat.reducePow, Nat.reduceMul]
theorem ref_eight {x : Int} {n : Nat} (h : IntKind.wrap .u64 x = (n : Int)) : g_ref04_eight (x, ()) = some (ints (be 8 n)) := by
  unfold g_ref04_eight
  simp only [h]
  rw [fdiv_pow n 32, four_ints, four_ints, app_ints (by simp [be_length]), eight_ints]
  rfl
def le4 (s : Nat) : List Nat := [s % 256, s / 256 % 256, s / 65536 % 256, s / 16777216 % 256]
theorem sum_ints (s : Nat) : ((IntKind.wrap .u8 (s : Int)) :: ((IntKind.wrap .u8 (Int.fdiv (s : Int) (2 ^ 8))) :: ((IntKind.wrap .u8 (Int.fdiv (s : Int) (2 ^ 16))) :: ((IntKind.wrap .u8 (Int.fdiv (s : Int) (2 ^ 24))) :: [])))) = ints (le4 s) := by
  simp only [fdiv_pow, u8_nat, le4, ints, List.map_cons, List.map_nil, Nat.reducePow]
theorem sum_ref {s : Nat} (h : s < 4294967296) : ((IntKind.wrap .u8 (Int.tmod (s : Int) 256)) :: ((IntKind.wrap .u8 (Int.tmod (IntKind.wrap .u32 (Int.tdiv (s : Int) 256)) 256)) :: ((IntKind.wrap .u8 (Int.tmod (IntKind.wrap .u32 (Int.tdiv (s : Int) 65536)) 256)) :: ((IntKind.wrap .u8 (IntKind.wrap .u32 (Int.tdiv (s : Int) 16777216))) :: [])))) = ints (le4 s) := by
  have td : ∀ m : Nat, Int.tdiv (s : Int) (m : Int) = ((s / m : Nat) : Int) := fun m => by rw [Int.tdiv_eq_ediv_of_nonneg (by omega)]; rfl
  have tm : ∀ t m : Nat, Int.tmod (t : Int) (m : Int) = ((t % m : Nat) : Int) := fun t m => by rw [Int.tmod_eq_emod_of_nonneg (by omega)]; rfl
  have e1 := td 256
  have e2 := td 65536
  have e3 := td 16777216
  have w : ∀ t : Nat, t < 4294967296 → IntKind.wrap .u32 (t : Int) = (t : Int) := fun t ht => by rw [IntKind.wrap_u32']; omega
  have d2 : s / 256 < 4294967296 := by omega
  have d3 : s / 65536 < 4294967296 := by omega
  have d4 : s / 16777216 < 4294967296 := by omega
  have m1 := tm s 256
  have m2 := tm (s / 256) 256
  have m3 := tm (s / 65536) 256
  simp only [Int.cast_ofNat_Int] at e1 e2 e3 m1 m2 m3
  rw [e1, e2, e3, w _ d2, w _ d3, w _ d4, m1, m2, m3]
  simp only [u8_nat, le4, ints, List.map_cons, List.map_nil, Nat.mod_mod]
/-- The bytes before the sum. -/
def textN (e l k b1 b2 b3 b4 b5 b6 : Nat) : List Nat := [] ++ be 4 72 ++ be 4 e ++ be 8 l ++ be 4 k ++ be 8 b1 ++ be 8 b2 ++ be 8 b3 ++ be 8 b4 ++ be 8 b5 ++ be 8 b6
theorem textN_lt (e l k b1 b2 b3 b4 b5 b6 : Nat) : ∀ x ∈ textN e l k b1 b2 b3 b4 b5 b6, x < 256 := by
  intro x hx
  simp only [textN, List.mem_append, List.not_mem_nil, false_or] at hx
  rcases hx with (((((((((h | h) | h) | h) | h) | h) | h) | h) | h) | h) <;> exact be_lt _ _ x h
theorem textN_length (e l k b1 b2 b3 b4 b5 b6 : Nat) : (textN e l k b1 b2 b3 b4 b5 b6).length = 68 := by
  simp [textN, be_length]
def codeN (e l k b1 b2 b3 b4 b5 b6 : Nat) : List Nat := textN e l k b1 b2 b3 b4 b5 b6 ++ le4 (moreN 0 (textN e l k b1 b2 b3 b4 b5 b6))
abbrev FrmR : Type := Int × (Int × (Int × ((Int × (Int × (Int × (Int × (Int × (Int × Unit)))))) × Unit)))
theorem ref_Encode (f : FrmR) {e l k b1 b2 b3 b4 b5 b6 : Nat} (h1 : IntKind.wrap .u64 f.1 = (e : Int)) (h2 : IntKind.wrap .u64 f.2.1 = (l : Int)) (h3 : IntKind.wrap .u64 f.2.2.1 = (k : Int)) (h4 : IntKind.wrap .u64 f.2.2.2.1.1 = (b1 : Int)) (h5 : IntKind.wrap .u64 f.2.2.2.1.2.1 = (b2 : Int)) (h6 : IntKind.wrap .u64 f.2.2.2.1.2.2.1 = (b3 : Int)) (h7 : IntKind.wrap .u64 f.2.2.2.1.2.2.2.1 = (b4 : Int)) (h8 : IntKind.wrap .u64 f.2.2.2.1.2.2.2.2.1 = (b5 : Int)) (h9 : IntKind.wrap .u64 f.2.2.2.1.2.2.2.2.2.1 = (b6 : Int)) :
    g_ref04_Encode (f, ()) = some (ints (codeN e l k b1 b2 b3 b4 b5 b6)) := by
  have ht := textN_lt e l k b1 b2 b3 b4 b5 b6
  have hl := textN_length e l k b1 b2 b3 b4 b5 b6
  have hs := ref_Sum (ns := textN e l k b1 b2 b3 b4 b5 b6) ht (by omega)
  have hm : moreN 0 (textN e l k b1 b2 b3 b4 b5 b6) < 4294967296 := more_lt (by omega) ht
  have h0 : ((0 : Int) :: (0 :: (0 :: (72 :: [])))) = ints ([] ++ be 4 72) := rfl
  have h10 : g_ref04_eight f.2.2.2.1.2.2.2.2.2 = some (ints (be 8 b6)) := ref_eight h9
  unfold g_ref04_Encode
  simp only [h1, h3, four_ints, h0, ref_eight h2, ref_eight h4, ref_eight h5, ref_eight h6, ref_eight h7, ref_eight h8, h10, Option.bind_some]
  unfold textN at hs hm
  simp only [app_ints, be_length, List.length_append, List.length_nil, Nat.reduceAdd, Nat.reduceLeDiff, Option.bind_some, hs, sum_ref hm]
  rfl
end Go.AI
