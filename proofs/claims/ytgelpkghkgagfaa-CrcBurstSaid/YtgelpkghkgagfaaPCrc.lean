/- crc: what its functions come to. -/
import Derived.Test.YtgelpkghkgagfaaL
import Derived.Test.YtgelpkghkgagfaaALj
import Derived.Test.YtgelpkghkgagfaaPCrcM
namespace Go.AI
set_option linter.unusedVariables false
set_option linter.unusedSimpArgs false

/-- Numbers as bytes. -/
def ints (ns : List Nat) : List Int := ns.map fun n : Nat => (n : Int)
theorem ints_length (ns : List Nat) : (ints ns).length = ns.length := by simp [ints]
theorem ints_append (a b : List Nat) : ints (a ++ b) = ints a ++ ints b := by simp [ints]
theorem ints_get (ns : List Nat) (i : Nat) : (ints ns)[i]? = (ns[i]?).map fun n : Nat => (n : Int) := by simp [ints]
theorem ints_of : ∀ {xs : List Int}, (∀ x ∈ xs, R_u8 x) → ∃ ns : List Nat, xs = ints ns ∧ ∀ n ∈ ns, n < 256
  | [], _ => ⟨[], rfl, by simp⟩
  | x :: xs, h => by
    obtain ⟨ns, rfl, hn⟩ := ints_of (xs := xs) (fun y hy => h y (by simp [hy]))
    have hx := h x (by simp)
    unfold R_u8 at hx
    refine ⟨x.toNat :: ns, by simp only [ints, List.map_cons]; rw [Int.toNat_of_nonneg hx.1], ?_⟩
    intro n hn'
    rcases List.mem_cons.1 hn' with rfl | hn'
    · omega
    · exact hn n hn'

theorem loop_fun {β ε : Type} {step : Int × β → Option ((Int × β) ⊕ ε)} {n : Nat} (σ : Nat → β) {out : ε} (h1 : ∀ i, i < n → step ((i : Int), σ i) = some (.inl (((i + 1 : Nat) : Int), σ (i + 1)))) (h2 : step ((n : Int), σ n) = some (.inr out)) {i : Nat} (hi : i ≤ n) : loopO step ((i : Int), σ i) = some out := by
  generalize hk : n - i = k
  induction k generalizing i with
  | zero =>
    have : i = n := by omega
    subst this
    exact loopO_out h2
  | succ k ih =>
    rw [loopO_next (h1 i (by omega))]
    exact ih (by omega) (by omega)

theorem and1 (n : Nat) (h : n < 4294967296) : bits .and .u32 n 1 = ((n % 2 : Nat) : Int) := by
  have := u32_and_nat n 1 h (by omega)
  rw [Nat.and_one_is_mod] at this
  exact this
theorem and15 (n : Nat) (h : n < 4294967296) : bits .and .u32 n 15 = ((n % 16 : Nat) : Int) := by
  have := u32_and_nat n 15 h (by omega)
  rw [show (15 : Nat) = 2 ^ 4 - 1 by rfl, Nat.and_two_pow_sub_one_eq_mod] at this
  exact this
theorem xorR (n : Nat) (h : n < 4294967296) : bits .xor .u32 n 3988292384 = ((n ^^^ 3988292384 : Nat) : Int) := u32_xor_nat n 3988292384 h (by omega)
theorem notF (n : Nat) (h : n < 4294967296) : bits .xor .u32 4294967295 n = ((4294967295 ^^^ n : Nat) : Int) := u32_xor_nat 4294967295 n (by omega) h
theorem div2 (n : Nat) : Int.fdiv (n : Int) 2 = ((n / 2 : Nat) : Int) := fdiv_nat n 2
theorem div16 (n : Nat) : Int.fdiv (n : Int) 16 = ((n / 16 : Nat) : Int) := fdiv_nat n 16
theorem xor_u32 {n m : Nat} (h : n < 4294967296) (h' : m < 4294967296) : bits .xor .u32 n m = ((n ^^^ m : Nat) : Int) := u32_xor_nat n m h h'

theorem half_go (n : Nat) (h : n < 4294967296) : (bif (bits .and .u32 (n : Int) 1 == 1) then some (bits .xor .u32 (Int.fdiv (n : Int) 2) 3988292384) else some (Int.fdiv (n : Int) 2)) = some ((half n : Nat) : Int) := by
  rw [and1 n h, div2, xorR _ (by omega)]
  unfold half
  rcases Nat.mod_two_eq_zero_or_one n with h1 | h1
  · rw [h1, if_neg (by omega)]; rfl
  · rw [h1, if_pos rfl]; rfl
theorem crc_step (n : Nat) (h : n < 4294967296) : g_crc_step (n : Int) = some ((halves 4 n : Nat) : Int) := by
  unfold g_crc_step
  rw [half_go n h, Option.bind_some, half_go _ (half_lt h), Option.bind_some, half_go _ (half_lt (half_lt h)), Option.bind_some, half_go _ (half_lt (half_lt (half_lt h))), Option.bind_some]
  rfl

theorem crc_byte (n c : Nat) (h : n < 4294967296) (hc : c < 256) {α : Type} (k : Int → Option α) :
    ((g_crc_step (bits .and .u32 (bits .xor .u32 (n : Int) (IntKind.wrap .u32 (c : Int))) 15)).bind fun v5 => (g_crc_step (bits .and .u32 (bits .xor .u32 v5 (Int.fdiv (bits .xor .u32 (n : Int) (IntKind.wrap .u32 (c : Int))) 16)) 15)).bind fun v6 =>
      k (bits .xor .u32 v6 (Int.fdiv (bits .xor .u32 v5 (Int.fdiv (bits .xor .u32 (n : Int) (IntKind.wrap .u32 (c : Int))) 16)) 16))) = k ((stp n c : Nat) : Int) := by
  rw [wrap_u32_nat c (by omega), xor_u32 h (by omega)]
  have hx : n ^^^ c < 4294967296 := xor_lt h (by omega)
  rw [and15 _ hx, div16, crc_step _ (by omega), Option.bind_some, xor_u32 (halves_lt 4 (by omega)) (by omega), halves_table]
  have hy : halves 4 (n ^^^ c) < 4294967296 := halves_lt 4 hx
  rw [and15 _ hy, div16, crc_step _ (by omega), Option.bind_some, xor_u32 (halves_lt 4 (by omega)) (by omega), halves_table, ← halves_add 4 4]
  rfl

theorem crc_More {s : Nat} {ns : List Nat} (hs : s < 4294967296) (hb : ∀ n ∈ ns, n < 256) (hl : ns.length < 9223372036854775807) : g_crc_More (s : Int) (ints ns) = some ((moreN s ns : Nat) : Int) := by
  unfold g_crc_More
  rw [notF s hs]
  have hs' : 4294967295 ^^^ s < 4294967296 := xor_lt (by omega) hs
  have key : ∀ i, i ≤ ns.length → (ns.take i).foldl stp (4294967295 ^^^ s) < 4294967296 := fun i _ => fold_lt _ hs' (fun n hn => hb n (List.mem_of_mem_take hn))
  have hloop := loop_fun (step := g_crc_More_l0 (ints ns)) (n := ns.length) (fun i => (((ns.take i).foldl stp (4294967295 ^^^ s) : Nat) : Int)) (out := ((ns.foldl stp (4294967295 ^^^ s) : Nat) : Int)) ?_ ?_ (Nat.zero_le _)
  · simp only [List.take_zero, List.foldl_nil] at hloop
    have : ((0 : Int), ((4294967295 ^^^ s : Nat) : Int)) = (((0 : Nat) : Int), ((4294967295 ^^^ s : Nat) : Int)) := rfl
    rw [this, hloop]
    simp only [Option.bind_some]
    rw [notF _ (fold_lt ns hs' hb)]
    rfl
  · intro i hi
    have hg : getO (ints ns) (i : Int) = some (ns[i] : Int) := by rw [getO_nat, ints_get, List.getElem?_eq_getElem hi]; rfl
    have hc := hb _ (List.getElem_mem hi)
    unfold g_crc_More_l0
    simp only [hg, Option.bind_some, ints_length]
    rw [show (decide ((i : Int) < (ns.length : Int))) = true by simp; omega, cond_true]
    refine (crc_byte _ _ (key i (by omega)) hc (fun r => some (Sum.inl (IntKind.wrap .i64 ((i : Int) + 1), r)))).trans ?_
    rw [wrap_of (by omega) (by omega), List.take_succ_eq_append_getElem hi, List.foldl_append]
    rfl
  · unfold g_crc_More_l0
    simp [ints_length]

theorem crc_Sum {ns : List Nat} (hb : ∀ n ∈ ns, n < 256) (hl : ns.length < 9223372036854775807) : g_crc_Sum (ints ns) = some ((moreN 0 ns : Nat) : Int) := by
  unfold g_crc_Sum
  have := crc_More (s := 0) (by omega) hb hl
  change g_crc_More 0 (ints ns) = _ at this
  rw [this]
  rfl

theorem crc_awake : g_snafflelaw02_awake = some true := by
  unfold g_snafflelaw02_awake
  have e1 : g_crc_Sum [97] = some ((moreN 0 [97] : Nat) : Int) := crc_Sum (ns := [97]) (by decide) (by decide)
  have e2 : g_crc_Sum [98] = some ((moreN 0 [98] : Nat) : Int) := crc_Sum (ns := [98]) (by decide) (by decide)
  have e3 : g_crc_Sum [97, 98] = some ((moreN 0 [97, 98] : Nat) : Int) := crc_Sum (ns := [97, 98]) (by decide) (by decide)
  have e4 : g_crc_Sum [] = some ((moreN 0 [] : Nat) : Int) := crc_Sum (ns := []) (by decide) (by decide)
  have e5 : g_crc_More ((moreN 0 [97] : Nat) : Int) [98] = some ((moreN (moreN 0 [97]) [98] : Nat) : Int) := crc_More (ns := [98]) (more_lt (by decide) (by decide)) (by decide) (by decide)
  have n0 : ¬ moreN 0 [97] = moreN 0 [98] := by decide +kernel
  have n2 : moreN (moreN 0 [97]) [98] = moreN 0 [97, 98] := by decide +kernel
  have n3 : moreN 0 [] = 0 := by decide +kernel
  rw [n2] at e5
  rw [n3] at e4
  simp only [e1, e2, e3, e4, e5, Option.bind_some]
  generalize moreN 0 [97] = x at n0
  generalize moreN 0 [98] = y at n0
  have : ((x : Int) != (y : Int)) = true := by simp only [bne_iff_ne, ne_eq]; omega
  simp [this]


/-- Bytes of which some are turned. -/
def turn (ns : List Nat) (at_ : Nat) (ys : List Nat) : List Nat := ns.take at_ ++ List.zipWith (· ^^^ ·) ((ns.drop at_).take ys.length) ys ++ ns.drop (at_ + ys.length)

theorem zip_lt : ∀ {a b : List Nat}, (∀ n ∈ a, n < 256) → (∀ n ∈ b, n < 256) → ∀ n ∈ List.zipWith (· ^^^ ·) a b, n < 256
  | [], _, _, _, n, hn => by simp at hn
  | _ :: _, [], _, _, n, hn => by simp at hn
  | x :: a, y :: b, ha, hb, n, hn => by
    simp only [List.zipWith_cons_cons] at hn
    rcases List.mem_cons.1 hn with rfl | hn
    · exact Nat.xor_lt_two_pow (n := 8) (ha x (by simp)) (hb y (by simp))
    · exact zip_lt (fun m hm => ha m (by simp [hm])) (fun m hm => hb m (by simp [hm])) n hn
theorem turn_lt {ns ys : List Nat} {k : Nat} (hn : ∀ n ∈ ns, n < 256) (hy : ∀ n ∈ ys, n < 256) : ∀ n ∈ turn ns k ys, n < 256 := by
  intro n h
  unfold turn at h
  rcases List.mem_append.1 h with h | h
  · rcases List.mem_append.1 h with h | h
    · exact hn n (List.mem_of_mem_take h)
    · exact zip_lt (fun m hm => hn m (List.mem_of_mem_drop (List.mem_of_mem_take hm))) hy n h
  · exact hn n (List.mem_of_mem_drop h)
theorem turn_length {ns ys : List Nat} {k : Nat} (h : k + ys.length ≤ ns.length) : (turn ns k ys).length = ns.length := by
  unfold turn
  simp
  omega
theorem turn_nil (ns : List Nat) (k : Nat) : turn ns k [] = ns := by simp [turn]

/-- The sum of bytes that are turned in up to four places. -/
theorem more_turn {ns ys : List Nat} {k : Nat} (hn : ∀ n ∈ ns, n < 256) (hy : ∀ n ∈ ys, n < 256) (h4 : ys.length ≤ 4) (hk : k + ys.length ≤ ns.length) : moreN 0 (turn ns k ys) = moreN 0 ns ↔ ∀ c ∈ ys, c = 0 := by
  have hsp : ns = ns.take k ++ (ns.drop k).take ys.length ++ ns.drop (k + ys.length) := by
    rw [List.append_assoc, ← List.drop_drop, List.take_append_drop, List.take_append_drop]
  have hp : (ns.take k).foldl stp 4294967295 < 4294967296 := fold_lt _ (by omega) (fun n h => hn n (List.mem_of_mem_take h))
  have e1 : (turn ns k ys).foldl stp 4294967295 = (ns.drop (k + ys.length)).foldl stp (((ns.drop k).take ys.length).foldl stp ((ns.take k).foldl stp 4294967295) ^^^ ys.foldl stp 0) := by
    unfold turn
    rw [List.foldl_append, List.foldl_append, ← fold_xor _ _ _ 0 (by simp; omega), Nat.xor_zero]
  have e2 : ns.foldl stp 4294967295 = (ns.drop (k + ys.length)).foldl stp (((ns.drop k).take ys.length).foldl stp ((ns.take k).foldl stp 4294967295)) := by
    conv => lhs; rw [hsp]
    rw [List.foldl_append, List.foldl_append]
  have hm : ((ns.drop k).take ys.length).foldl stp ((ns.take k).foldl stp 4294967295) < 4294967296 := fold_lt _ hp (fun n h => hn n (List.mem_of_mem_drop (List.mem_of_mem_take h)))
  have hyl : ys.foldl stp 0 < 4294967296 := fold_lt _ (by omega) hy
  have cancel : ∀ a b : Nat, 4294967295 ^^^ a = 4294967295 ^^^ b → a = b := fun a b h => by
    have := congrArg (4294967295 ^^^ ·) h
    simpa only [xor_cancel] using this
  constructor
  · intro h
    unfold moreN at h
    rw [Nat.xor_zero] at h
    have h1 := cancel _ _ h
    rw [e1, e2] at h1
    have h2 := fold_inj _ (xor_lt hm hyl) hm (fun n h => hn n (List.mem_of_mem_drop h)) h1
    refine burst hy h4 ?_
    have h3 := congrArg (fun z => ((ns.drop k).take ys.length).foldl stp ((ns.take k).foldl stp 4294967295) ^^^ z) h2
    simpa only [xor_cancel, Nat.xor_self] using h3
  · intro h
    have hz : ∀ (ys : List Nat), (∀ c ∈ ys, c = 0) → ys.foldl stp 0 = 0 := by
      intro ys
      induction ys with
      | nil => intro _; rfl
      | cons y ys ih =>
        intro h
        rw [h y (by simp), List.foldl_cons]
        exact ih (fun c hc => h c (by simp [hc]))
    unfold moreN
    rw [Nat.xor_zero, e1, e2, hz ys h, Nat.xor_zero]

theorem turn_snoc {ns ys : List Nat} {k y : Nat} (hk : k + ys.length < ns.length) : turn ns k (ys ++ [y]) = (turn ns k ys).set (k + ys.length) (ns[k + ys.length] ^^^ y) := by
  have hd : (ns.drop k).length = ns.length - k := by simp
  have h1 : (ns.drop k).take (ys.length + 1) = (ns.drop k).take ys.length ++ [ns[k + ys.length]] := by
    rw [List.take_succ_eq_append_getElem (by omega), List.getElem_drop]
  have hl : (List.zipWith (· ^^^ ·) ((ns.drop k).take ys.length) ys).length = ys.length := by simp; omega
  unfold turn
  rw [List.length_append, List.length_singleton, h1, List.zipWith_append (by simp; omega)]
  rw [List.set_append_right _ _ (by simp; omega)]
  rw [show k + ys.length - (ns.take k ++ List.zipWith (· ^^^ ·) ((ns.drop k).take ys.length) ys).length = 0 by simp; omega]
  rw [List.drop_eq_getElem_cons hk]
  simp [Nat.add_assoc]
end Go.AI
