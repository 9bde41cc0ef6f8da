/- Bytes of which some are turned; the sum of bytes behind which that sum stands. -/
import Derived.Test.YthmgondhniecnaaXCrc
import Derived.Test.YthmgondhniecnaaXFrameC
namespace Go.AI
theorem u8_xor {a b : Nat} (ha : a < 256) (hb : b < 256) : bits .xor .u8 (a : Int) b = ((a ^^^ b : Nat) : Int) := u8_xor_nat a b ha hb
theorem ints_set (ns : List Nat) (i v : Nat) : (ints ns).set i (v : Int) = ints (ns.set i v) := by simp [ints, List.map_set]
/-- Bytes of which some are turned. -/
def turn (ns : List Nat) (at_ : Nat) (ys : List Nat) : List Nat := ns.take at_ ++ List.zipWith (· ^^^ ·) ((ns.drop at_).take ys.length) ys ++ ns.drop (at_ + ys.length)

theorem zip_lt : ∀ {a b : List Nat}, (∀ n ∈ a, n < 256) → (∀ n ∈ b, n < 256) → ∀ n ∈ List.zipWith (· ^^^ ·) a b, n < 256
  | [], _, _, _, n, hn => by simp at hn
  | _ :: _, [], _, _, n, hn => by simp at hn
  | x :: a, y :: b, ha, hb, n, hn => by
    simp only [List.zipWith_cons_cons] at hn
    rcases List.mem_cons.1 hn with rfl | hn
    · exact Nat.xor_lt_two_pow (n := 8) (ha x (by simp)) (hb y (by simp))
    · exact zip_lt (fun m hm => ha m (by simp [hm])) (fun m hm => hb m (by simp [hm])) n hn
theorem turn_lt {ns ys : List Nat} {k : Nat} (hn : ∀ n ∈ ns, n < 256) (hy : ∀ n ∈ ys, n < 256) : ∀ n ∈ turn ns k ys, n < 256 := by
  intro n h
  unfold turn at h
  rcases List.mem_append.1 h with h | h
  · rcases List.mem_append.1 h with h | h
    · exact hn n (List.mem_of_mem_take h)
    · exact zip_lt (fun m hm => hn m (List.mem_of_mem_drop (List.mem_of_mem_take hm))) hy n h
  · exact hn n (List.mem_of_mem_drop h)
theorem turn_length {ns ys : List Nat} {k : Nat} (h : k + ys.length ≤ ns.length) : (turn ns k ys).length = ns.length := by
  unfold turn
  simp
  omega
theorem turn_nil (ns : List Nat) (k : Nat) : turn ns k [] = ns := by simp [turn]

/-- The sum of bytes that are turned in up to four places. -/
theorem more_turn {ns ys : List Nat} {k : Nat} (hn : ∀ n ∈ ns, n < 256) (hy : ∀ n ∈ ys, n < 256) (h4 : ys.length ≤ 4) (hk : k + ys.length ≤ ns.length) : moreN 0 (turn ns k ys) = moreN 0 ns ↔ ∀ c ∈ ys, c = 0 := by
  have hsp : ns = ns.take k ++ (ns.drop k).take ys.length ++ ns.drop (k + ys.length) := by
    rw [List.append_assoc, ← List.drop_drop, List.take_append_drop, List.take_append_drop]
  have hp : (ns.take k).foldl stp 4294967295 < 4294967296 := fold_lt _ (by omega) (fun n h => hn n (List.mem_of_mem_take h))
  have e1 : (turn ns k ys).foldl stp 4294967295 = (ns.drop (k + ys.length)).foldl stp (((ns.drop k).take ys.length).foldl stp ((ns.take k).foldl stp 4294967295) ^^^ ys.foldl stp 0) := by
    unfold turn
    rw [List.foldl_append, List.foldl_append, ← fold_xor _ _ _ 0 (by simp; omega), Nat.xor_zero]
  have e2 : ns.foldl stp 4294967295 = (ns.drop (k + ys.length)).foldl stp (((ns.drop k).take ys.length).foldl stp ((ns.take k).foldl stp 4294967295)) := by
    conv => lhs; rw [hsp]
    rw [List.foldl_append, List.foldl_append]
  have hm : ((ns.drop k).take ys.length).foldl stp ((ns.take k).foldl stp 4294967295) < 4294967296 := fold_lt _ hp (fun n h => hn n (List.mem_of_mem_drop (List.mem_of_mem_take h)))
  have hyl : ys.foldl stp 0 < 4294967296 := fold_lt _ (by omega) hy
  have cancel : ∀ a b : Nat, 4294967295 ^^^ a = 4294967295 ^^^ b → a = b := fun a b h => by
    have := congrArg (4294967295 ^^^ ·) h
    simpa only [xor_cancel] using this
  constructor
  · intro h
    unfold moreN at h
    rw [Nat.xor_zero] at h
    have h1 := cancel _ _ h
    rw [e1, e2] at h1
    have h2 := fold_inj _ (xor_lt hm hyl) hm (fun n h => hn n (List.mem_of_mem_drop h)) h1
    refine burst hy h4 ?_
    have h3 := congrArg (fun z => ((ns.drop k).take ys.length).foldl stp ((ns.take k).foldl stp 4294967295) ^^^ z) h2
    simpa only [xor_cancel, Nat.xor_self] using h3
  · intro h
    have hz : ∀ (ys : List Nat), (∀ c ∈ ys, c = 0) → ys.foldl stp 0 = 0 := by
      intro ys
      induction ys with
      | nil => intro _; rfl
      | cons y ys ih =>
        intro h
        rw [h y (by simp), List.foldl_cons]
        exact ih (fun c hc => h c (by simp [hc]))
    unfold moreN
    rw [Nat.xor_zero, e1, e2, hz ys h, Nat.xor_zero]

theorem turn_snoc {ns ys : List Nat} {k y : Nat} (hk : k + ys.length < ns.length) : turn ns k (ys ++ [y]) = (turn ns k ys).set (k + ys.length) (ns[k + ys.length] ^^^ y) := by
  have hd : (ns.drop k).length = ns.length - k := by simp
  have h1 : (ns.drop k).take (ys.length + 1) = (ns.drop k).take ys.length ++ [ns[k + ys.length]] := by
    rw [List.take_succ_eq_append_getElem (by omega), List.getElem_drop]
  have hl : (List.zipWith (· ^^^ ·) ((ns.drop k).take ys.length) ys).length = ys.length := by simp; omega
  unfold turn
  rw [List.length_append, List.length_singleton, h1, List.zipWith_append (by simp; omega)]
  rw [List.set_append_right _ _ (by simp; omega)]
  rw [show k + ys.length - (ns.take k ++ List.zipWith (· ^^^ ·) ((ns.drop k).take ys.length) ys).length = 0 by simp; omega]
  rw [List.drop_eq_getElem_cons hk]
  simp [Nat.add_assoc]
theorem xor_join {a q : Nat} (h : a < 256) : a ^^^ 256 * q = 256 * q + a := by
  have e := Nat.two_pow_add_eq_or_of_lt (i := 8) (b := a) h q
  have h2 : (2 ^ 8 * q) ||| a = (2 ^ 8 * q) ^^^ a := by
    apply Nat.eq_of_testBit_eq
    intro i
    rw [Nat.testBit_or, Nat.testBit_xor, Nat.testBit_two_pow_mul]
    by_cases hi : 8 ≤ i
    · have : a.testBit i = false := Nat.testBit_lt_two_pow (Nat.lt_of_lt_of_le h (Nat.pow_le_pow_right (n := 2) (by omega) hi))
      simp [this]
    · simp [hi]
  rw [Nat.xor_comm, show (256 : Nat) = 2 ^ 8 by rfl, ← h2, ← e]
theorem num_le4 {s : Nat} (h : s < 4294967296) : num (le4 s) = s := by
  simp only [num, le4]
  rw [xor_join (a := s / 16777216 % 256) (q := 0) (by omega), xor_join (by omega), xor_join (by omega), xor_join (by omega)]
  omega
/-- Bytes with their sum behind them: their sum is always the same. -/
theorem more_sum {t : List Nat} (hb : ∀ n ∈ t, n < 256) : moreN 0 (t ++ le4 (moreN 0 t)) = 4294967295 ^^^ halves 32 4294967295 := by
  have hm : moreN 0 t < 4294967296 := more_lt (by omega) hb
  have e : moreN 0 (t ++ le4 (moreN 0 t)) = 4294967295 ^^^ (le4 (moreN 0 t)).foldl stp (t.foldl stp (4294967295 ^^^ 0)) := by
    unfold moreN
    rw [List.foldl_append]
  rw [e, fold_num, num_le4 hm, le4_length]
  have : t.foldl stp (4294967295 ^^^ 0) ^^^ moreN 0 t = 4294967295 := by
    unfold moreN
    rw [Nat.xor_comm, Nat.xor_assoc, Nat.xor_self, Nat.xor_zero]
  rw [this]
end Go.AI
