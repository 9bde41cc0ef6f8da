/- crc: what its functions come to, and the document's. -/
import Derived.Test.YtbcffodjbbcdhaaL
import Derived.Test.YtbcffodjbbcdhaaXBase
import Derived.Test.YtbcffodjbbcdhaaPCrcM
namespace Go.AI

theorem and1 (n : Nat) (h : n < 4294967296) : bits .and .u32 n 1 = ((n % 2 : Nat) : Int) := by
  have := u32_and_nat n 1 h (by omega)
  rw [Nat.and_one_is_mod] at this
  exact this
theorem and15 (n : Nat) (h : n < 4294967296) : bits .and .u32 n 15 = ((n % 16 : Nat) : Int) := by
  have := u32_and_nat n 15 h (by omega)
  rw [show (15 : Nat) = 2 ^ 4 - 1 by rfl, Nat.and_two_pow_sub_one_eq_mod] at this
  exact this
theorem xorR (n : Nat) (h : n < 4294967296) : bits .xor .u32 n 3988292384 = ((n ^^^ 3988292384 : Nat) : Int) := u32_xor_nat n 3988292384 h (by omega)
theorem notF (n : Nat) (h : n < 4294967296) : bits .xor .u32 (if IntKind.signed .u32 = true then -1 else IntKind.max .u32) n = ((4294967295 ^^^ n : Nat) : Int) := u32_xor_nat 4294967295 n (by omega) h
theorem xorF (n : Nat) (h : n < 4294967296) : bits .xor .u32 n 4294967295 = ((4294967295 ^^^ n : Nat) : Int) := by
  rw [Nat.xor_comm]; exact u32_xor_nat n 4294967295 h (by omega)
theorem div2 (n : Nat) : Int.fdiv (n : Int) (2 ^ 1) = ((n / 2 : Nat) : Int) := fdiv_nat n 2
theorem div16 (n : Nat) : Int.fdiv (n : Int) (2 ^ 4) = ((n / 16 : Nat) : Int) := fdiv_nat n 16
theorem xor_u32 {n m : Nat} (h : n < 4294967296) (h' : m < 4294967296) : bits .xor .u32 n m = ((n ^^^ m : Nat) : Int) := u32_xor_nat n m h h'
theorem halves_succ (i n : Nat) : halves (i + 1) n = half (halves i n) := by
  rw [halves_add]; rfl

theorem crc_step {n : Nat} (h : n < 4294967296) : g_crc_step ((n : Int), ()) = some ((halves 4 n : Nat) : Int) := by
  unfold g_crc_step
  rw [loop_up0 4 (fun i => ((halves i n : Nat) : Int)) (out := (((halves 4 n : Nat) : Int), ())) ?_ ?_ (by rfl)]
  · rfl
  · intro i hi
    have hl := halves_lt i h
    generalize hx : halves i n = x at hl
    simp only [and1 x hl, div2, xorR _ (show x / 2 < 4294967296 by omega), halves_succ, hx]
    rw [show (decide ((i : Int) < 4)) = true by simp; omega, wrap_succ (by omega)]
    unfold half
    rcases Nat.mod_two_eq_zero_or_one x with h1 | h1
    · rw [h1, if_neg (by omega)]; rfl
    · rw [h1, if_pos rfl]; rfl
  · rfl

theorem crc_More {s : Nat} {ns : List Nat} (hs : s < 4294967296) (hb : ∀ n ∈ ns, n < 256) (hl : ns.length < 9223372036854775807) : g_crc_More ((s : Int), (ints ns, ())) = some ((moreN s ns : Nat) : Int) := by
  unfold g_crc_More
  have hs' : 4294967295 ^^^ s < 4294967296 := xor_lt (by omega) hs
  have key : ∀ i, i ≤ ns.length → (ns.take i).foldl stp (4294967295 ^^^ s) < 4294967296 := fun i _ => fold_lt _ hs' (fun n hn => hb n (List.mem_of_mem_take hn))
  rw [loop_up0 ns.length (fun i => (((ns.take i).foldl stp (4294967295 ^^^ s) : Nat) : Int)) (out := (((ns.foldl stp (4294967295 ^^^ s) : Nat) : Int), ())) ?_ ?_ (by simp only [notF s hs]; rfl)]
  · simp only [Option.bind_some, notF _ (fold_lt ns hs' hb)]
    rfl
  · intro i hi
    have hc := hb _ (List.getElem_mem hi)
    simp only [getI_ints hi, ints_length, Option.bind_some]
    rw [show (decide ((i : Int) < (ns.length : Int))) = true by simp; omega, cond_true, wrap_succ (by omega)]
    have hx := key i (by omega)
    rw [List.take_succ_eq_append_getElem hi, List.foldl_append]
    generalize (ns.take i).foldl stp (4294967295 ^^^ s) = x at hx
    generalize ns[i] = c at hc
    have hxc : x ^^^ c < 4294967296 := xor_lt hx (by omega)
    have h4 : halves 4 (x ^^^ c) < 4294967296 := halves_lt 4 hxc
    rw [wrap_u32_nat c (by omega), xor_u32 hx (by omega), and15 _ hxc, div16, crc_step (by omega), Option.bind_some, xor_u32 (halves_lt 4 (by omega)) (by omega), halves_table, and15 _ h4, div16, crc_step (by omega), Option.bind_some, xor_u32 (halves_lt 4 (by omega)) (by omega), halves_table, ← halves_add 4 4]
    rfl
  · simp only [ints_length]
    rw [show (decide ((ns.length : Int) < (ns.length : Int))) = false by simp, List.take_length]
    rfl

theorem crc_Sum {ns : List Nat} (hb : ∀ n ∈ ns, n < 256) (hl : ns.length < 9223372036854775807) : g_crc_Sum (ints ns, ()) = some ((moreN 0 ns : Nat) : Int) := by
  unfold g_crc_Sum
  have := crc_More (s := 0) (by omega) hb hl
  change g_crc_More (0, (ints ns, ())) = _ at this
  rw [this]
  rfl

theorem ref_half {x : Nat} (hl : x < 4294967296) : (bif (Int.tmod (x : Int) 2 == 1) then some (bits .xor .u32 (IntKind.wrap .u32 (Int.tdiv (x : Int) 2)) 3988292384, ()) else some (IntKind.wrap .u32 (Int.tdiv (x : Int) 2), ())) = some (((half x : Nat) : Int), ()) := by
  have e1 : Int.tmod (x : Int) 2 = ((x % 2 : Nat) : Int) := tmod_nat x 2
  have e2 : Int.tdiv (x : Int) 2 = ((x / 2 : Nat) : Int) := tdiv_nat x 2
  rw [e1, e2, wrap_u32_nat _ (by omega), xorR _ (by omega)]
  unfold half
  rcases Nat.mod_two_eq_zero_or_one x with h1 | h1
  · rw [h1, if_neg (by omega)]; rfl
  · rw [h1, if_pos rfl]; rfl

theorem ref_More {s : Nat} {ns : List Nat} (hs : s < 4294967296) (hb : ∀ n ∈ ns, n < 256) (hl : ns.length < 9223372036854775807) : g_ref02_More ((s : Int), (ints ns, ())) = some ((moreN s ns : Nat) : Int) := by
  unfold g_ref02_More
  have hs' : 4294967295 ^^^ s < 4294967296 := xor_lt (by omega) hs
  have key : ∀ i, i ≤ ns.length → (ns.take i).foldl stp (4294967295 ^^^ s) < 4294967296 := fun i _ => fold_lt _ hs' (fun n hn => hb n (List.mem_of_mem_take hn))
  rw [loop_up0 ns.length (fun i => (((ns.take i).foldl stp (4294967295 ^^^ s) : Nat) : Int)) (out := (((ns.foldl stp (4294967295 ^^^ s) : Nat) : Int), ())) ?_ ?_ (by simp only [xorF s hs]; rfl)]
  · simp only [Option.bind_some, xorF _ (fold_lt ns hs' hb)]
    rfl
  · intro i hi
    have hc := hb _ (List.getElem_mem hi)
    simp only [getI_ints hi, ints_length, Option.bind_some]
    rw [show (decide ((i : Int) < (ns.length : Int))) = true by simp; omega, cond_true, wrap_succ (by omega)]
    have hx := key i (by omega)
    rw [List.take_succ_eq_append_getElem hi, List.foldl_append]
    generalize (ns.take i).foldl stp (4294967295 ^^^ s) = x at hx
    generalize ns[i] = c at hc
    have hxc : x ^^^ c < 4294967296 := xor_lt hx (by omega)
    rw [wrap_u32_nat c (by omega), xor_u32 hx (by omega)]
    rw [loop_up0 8 (fun i => ((halves i (x ^^^ c) : Nat) : Int)) (out := (((halves 8 (x ^^^ c) : Nat) : Int), ())) ?_ ?_ (by rfl)]
    · rfl
    · intro k hk
      have hh := halves_lt k hxc
      simp only [ref_half hh, Option.bind_some, ← halves_succ]
      rw [show (decide ((k : Int) < 8)) = true by simp; omega, cond_true, wrap_succ (by omega)]
    · rfl
  · simp only [ints_length]
    rw [show (decide ((ns.length : Int) < (ns.length : Int))) = false by simp, List.take_length]
    rfl

theorem ref_Sum {ns : List Nat} (hb : ∀ n ∈ ns, n < 256) (hl : ns.length < 9223372036854775807) : g_ref02_Sum (ints ns, ()) = some ((moreN 0 ns : Nat) : Int) := by
  unfold g_ref02_Sum
  have := ref_More (s := 0) (by omega) hb hl
  change g_ref02_More (0, (ints ns, ())) = _ at this
  rw [this]
  rfl
end Go.AI
