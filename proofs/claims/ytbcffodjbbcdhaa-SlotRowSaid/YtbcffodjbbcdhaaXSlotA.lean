/- slot: its bytes, on both sides. -/
import Derived.Test.YtbcffodjbbcdhaaXByteN
import Derived.KernelRfl
namespace Go.AI
open IntKind

/-! ### Rows of a fixed length -/
def tupN : (n : Nat) → List Int → El (repS n (.int .u8))
  | 0, _ => ()
  | n + 1, l => (l.headD 0, tupN n l.tail)
theorem arrB_tup : ∀ (n : Nat) (l : List Int), n ≤ l.length → arrB n l = some (tupN n l)
  | 0, _, _ => rfl
  | n + 1, [], h => by simp at h
  | n + 1, x :: l, h => by
    have := arrB_tup n l (by simpa using h)
    simp only [arrB, this]
    rfl
abbrev V20 : Type := Int × (Int × (Int × (Int × (Int × (Int × (Int × (Int × (Int × (Int × (Int × (Int × (Int × (Int × (Int × (Int × (Int × (Int × (Int × (Int × Unit)))))))))))))))))))
def lst20 (v : V20) : List Int := v.1 :: (v.2.1 :: (v.2.2.1 :: (v.2.2.2.1 :: (v.2.2.2.2.1 :: (v.2.2.2.2.2.1 :: (v.2.2.2.2.2.2.1 :: (v.2.2.2.2.2.2.2.1 :: (v.2.2.2.2.2.2.2.2.1 :: (v.2.2.2.2.2.2.2.2.2.1 :: (v.2.2.2.2.2.2.2.2.2.2.1 :: (v.2.2.2.2.2.2.2.2.2.2.2.1 :: (v.2.2.2.2.2.2.2.2.2.2.2.2.1 :: (v.2.2.2.2.2.2.2.2.2.2.2.2.2.1 :: (v.2.2.2.2.2.2.2.2.2.2.2.2.2.2.1 :: (v.2.2.2.2.2.2.2.2.2.2.2.2.2.2.2.1 :: (v.2.2.2.2.2.2.2.2.2.2.2.2.2.2.2.2.1 :: (v.2.2.2.2.2.2.2.2.2.2.2.2.2.2.2.2.2.1 :: (v.2.2.2.2.2.2.2.2.2.2.2.2.2.2.2.2.2.2.1 :: (v.2.2.2.2.2.2.2.2.2.2.2.2.2.2.2.2.2.2.2.1 :: [])))))))))))))))))))
def v20 (l : List Int) : V20 := tupN 20 l
theorem lst20_of : ∀ {l : List Int}, l.length = 20 → lst20 (v20 l) = l
  | [_, _, _, _, _, _, _, _, _, _, _, _, _, _, _, _, _, _, _, _], _ => rfl
def eq20 (v w : V20) : Bool := (v.1 == w.1) && ((v.2.1 == w.2.1) && ((v.2.2.1 == w.2.2.1) && ((v.2.2.2.1 == w.2.2.2.1) && ((v.2.2.2.2.1 == w.2.2.2.2.1) && ((v.2.2.2.2.2.1 == w.2.2.2.2.2.1) && ((v.2.2.2.2.2.2.1 == w.2.2.2.2.2.2.1) && ((v.2.2.2.2.2.2.2.1 == w.2.2.2.2.2.2.2.1) && ((v.2.2.2.2.2.2.2.2.1 == w.2.2.2.2.2.2.2.2.1) && ((v.2.2.2.2.2.2.2.2.2.1 == w.2.2.2.2.2.2.2.2.2.1) && ((v.2.2.2.2.2.2.2.2.2.2.1 == w.2.2.2.2.2.2.2.2.2.2.1) && ((v.2.2.2.2.2.2.2.2.2.2.2.1 == w.2.2.2.2.2.2.2.2.2.2.2.1) && ((v.2.2.2.2.2.2.2.2.2.2.2.2.1 == w.2.2.2.2.2.2.2.2.2.2.2.2.1) && ((v.2.2.2.2.2.2.2.2.2.2.2.2.2.1 == w.2.2.2.2.2.2.2.2.2.2.2.2.2.1) && ((v.2.2.2.2.2.2.2.2.2.2.2.2.2.2.1 == w.2.2.2.2.2.2.2.2.2.2.2.2.2.2.1) && ((v.2.2.2.2.2.2.2.2.2.2.2.2.2.2.2.1 == w.2.2.2.2.2.2.2.2.2.2.2.2.2.2.2.1) && ((v.2.2.2.2.2.2.2.2.2.2.2.2.2.2.2.2.1 == w.2.2.2.2.2.2.2.2.2.2.2.2.2.2.2.2.1) && ((v.2.2.2.2.2.2.2.2.2.2.2.2.2.2.2.2.2.1 == w.2.2.2.2.2.2.2.2.2.2.2.2.2.2.2.2.2.1) && ((v.2.2.2.2.2.2.2.2.2.2.2.2.2.2.2.2.2.2.1 == w.2.2.2.2.2.2.2.2.2.2.2.2.2.2.2.2.2.2.1) && ((v.2.2.2.2.2.2.2.2.2.2.2.2.2.2.2.2.2.2.2.1 == w.2.2.2.2.2.2.2.2.2.2.2.2.2.2.2.2.2.2.2.1) && true)))))))))))))))))))
theorem beq_lst : ∀ v w : V20, eq20 v w = (lst20 v == lst20 w) := fun _ _ => rfl
theorem eq20_iff {l m : List Nat} (hl : l.length = 20) (hm : m.length = 20) : eq20 (v20 (ints l)) (v20 (ints m)) = decide (l = m) := by
  rw [beq_lst, lst20_of (by rw [ints_length]; exact hl), lst20_of (by rw [ints_length]; exact hm), Bool.eq_iff_iff]
  simp only [beq_iff_eq, decide_eq_true_eq]
  exact ⟨ints_inj, fun h => by rw [h]⟩

/-- A loop whose states are known. -/
theorem loop_st {τ ε : Type} {step : τ → Option (τ ⊕ ε)} (st : Nat → τ) {n : Nat} {out : ε} {t0 : τ} (h1 : ∀ i, i < n → step (st i) = some (.inl (st (i + 1)))) (h2 : step (st n) = some (.inr out)) (h0 : t0 = st 0) : loopO step t0 = some out := by
  subst h0
  have key : ∀ k i, n - i = k → i ≤ n → loopO step (st i) = some out := by
    intro k
    induction k with
    | zero =>
      intro i hk hi
      have : i = n := by omega
      subst this
      exact loopO_out h2
    | succ k ih =>
      intro i hk hi
      rw [loopO_next (h1 i (by omega))]
      exact ih (i + 1) (by omega) (by omega)
  exact key _ 0 rfl (Nat.zero_le _)

/-! ### Bytes -/
abbrev SltQ := Int × (Int × Unit)
/-- The number that an integer's bits are. -/
def u64N (x : Int) : Nat := (x % 18446744073709551616).toNat
theorem u64N_lt (x : Int) : u64N x < 18446744073709551616 := by unfold u64N; omega
theorem u64N_cast (x : Int) : (u64N x : Int) = x % 18446744073709551616 := by unfold u64N; omega
theorem u64N_nat {n : Nat} (h : n < 18446744073709551616) : u64N (n : Int) = n := by unfold u64N; omega
theorem u64N_wrap (n : Nat) (h : n < 18446744073709551616) : u64N (IntKind.wrap .i64 (n : Int)) = n := by
  have := IntKind.wrap_i64 (n : Int)
  unfold u64N
  omega
theorem byte_of (x : Int) (k : Nat) (h : k ≤ 7) : IntKind.wrap .u8 (Int.fdiv x (2 ^ (8 * k))) = ((u64N x / 256 ^ k % 256 : Nat) : Int) := by
  have hc := u64N_cast x
  rw [Int.fdiv_eq_ediv_of_nonneg _ (Int.le_of_lt (Int.pow_pos (by decide))), IntKind.wrap_u8']
  generalize u64N x = n at hc
  match k, h with
  | 0, _ => simp only [Nat.mul_zero, Int.pow_zero, Nat.pow_zero]; omega
  | 1, _ => simp only [Nat.mul_one, Int.reducePow, Nat.reducePow]; omega
  | 2, _ => simp only [Nat.reduceMul, Int.reducePow, Nat.reducePow]; omega
  | 3, _ => simp only [Nat.reduceMul, Int.reducePow, Nat.reducePow]; omega
  | 4, _ => simp only [Nat.reduceMul, Int.reducePow, Nat.reducePow]; omega
  | 5, _ => simp only [Nat.reduceMul, Int.reducePow, Nat.reducePow]; omega
  | 6, _ => simp only [Nat.reduceMul, Int.reducePow, Nat.reducePow]; omega
  | 7, _ => simp only [Nat.reduceMul, Int.reducePow, Nat.reducePow]; omega
def headS (s : SltQ) : List Nat := be 8 (u64N s.1) ++ be 8 (u64N s.2.1)
def slotN (s : SltQ) : List Nat := headS s ++ le4 (moreN 0 (headS s))
theorem headS_byt (s : SltQ) : byt (headS s) := by
  intro x hx
  rcases List.mem_append.1 hx with h | h <;> exact be_lt _ _ x h
theorem headS_len (s : SltQ) : (headS s).length = 16 := by simp [headS, be_length]
theorem slotN_len (s : SltQ) : (slotN s).length = 20 := by simp [slotN, headS_len, le4_length]
theorem slotN_byt (s : SltQ) : byt (slotN s) := by
  intro x hx
  rcases List.mem_append.1 hx with h | h
  · exact headS_byt s x h
  · simp only [le4, List.mem_cons, List.not_mem_nil, or_false] at h
    rcases h with h | h | h | h <;> omega
theorem slot_bytes (s : SltQ) : g_slot_bytes (s, ()) = some (v20 (ints (slotN s))) := by
  have b : ∀ (x : Int) (k : Nat), k ≤ 7 → IntKind.wrap .u8 (Int.fdiv x (2 ^ (8 * k))) = ((u64N x / 256 ^ k % 256 : Nat) : Int) := byte_of
  have hs := crc_Sum (ns := headS s) (headS_byt s) (by rw [headS_len]; omega)
  have hl : moreN 0 (headS s) < 4294967296 := more_lt (by omega) (headS_byt s)
  unfold g_slot_bytes
  dsimp only
  have e : ∀ x : Int, IntKind.wrap .u8 (Int.fdiv x (2 ^ 0)) = ((u64N x / 256 ^ 0 % 256 : Nat) : Int) ∧ IntKind.wrap .u8 (Int.fdiv x (2 ^ 8)) = ((u64N x / 256 ^ 1 % 256 : Nat) : Int) ∧ IntKind.wrap .u8 (Int.fdiv x (2 ^ 16)) = ((u64N x / 256 ^ 2 % 256 : Nat) : Int) ∧ IntKind.wrap .u8 (Int.fdiv x (2 ^ 24)) = ((u64N x / 256 ^ 3 % 256 : Nat) : Int) ∧ IntKind.wrap .u8 (Int.fdiv x (2 ^ 32)) = ((u64N x / 256 ^ 4 % 256 : Nat) : Int) ∧ IntKind.wrap .u8 (Int.fdiv x (2 ^ 40)) = ((u64N x / 256 ^ 5 % 256 : Nat) : Int) ∧ IntKind.wrap .u8 (Int.fdiv x (2 ^ 48)) = ((u64N x / 256 ^ 6 % 256 : Nat) : Int) ∧ IntKind.wrap .u8 (Int.fdiv x (2 ^ 56)) = ((u64N x / 256 ^ 7 % 256 : Nat) : Int) :=
    fun x => ⟨b x 0 (by decide), b x 1 (by decide), b x 2 (by decide), b x 3 (by decide), b x 4 (by decide), b x 5 (by decide), b x 6 (by decide), b x 7 (by decide)⟩
  obtain ⟨x0, x1, x2, x3, x4, x5, x6, x7⟩ := e s.1
  obtain ⟨y0, y1, y2, y3, y4, y5, y6, y7⟩ := e s.2.1
  rw [x0, x1, x2, x3, x4, x5, x6, x7, y0, y1, y2, y3, y4, y5, y6, y7]
  generalize hm : moreN 0 (headS s) = m at hs hl
  have hs' : g_crc_Sum ((((u64N s.1 / 256 ^ 7 % 256 : Nat) : Int) :: (((u64N s.1 / 256 ^ 6 % 256 : Nat) : Int) :: (((u64N s.1 / 256 ^ 5 % 256 : Nat) : Int) :: (((u64N s.1 / 256 ^ 4 % 256 : Nat) : Int) :: (((u64N s.1 / 256 ^ 3 % 256 : Nat) : Int) :: (((u64N s.1 / 256 ^ 2 % 256 : Nat) : Int) :: (((u64N s.1 / 256 ^ 1 % 256 : Nat) : Int) :: (((u64N s.1 / 256 ^ 0 % 256 : Nat) : Int) :: (((u64N s.2.1 / 256 ^ 7 % 256 : Nat) : Int) :: (((u64N s.2.1 / 256 ^ 6 % 256 : Nat) : Int) :: (((u64N s.2.1 / 256 ^ 5 % 256 : Nat) : Int) :: (((u64N s.2.1 / 256 ^ 4 % 256 : Nat) : Int) :: (((u64N s.2.1 / 256 ^ 3 % 256 : Nat) : Int) :: (((u64N s.2.1 / 256 ^ 2 % 256 : Nat) : Int) :: (((u64N s.2.1 / 256 ^ 1 % 256 : Nat) : Int) :: (((u64N s.2.1 / 256 ^ 0 % 256 : Nat) : Int) :: [])))))))))))))))), ()) = some (m : Int) := hs
  rw [hs']
  obtain ⟨m0, m1, m2, m3, _⟩ := e (m : Int)
  rw [u64N_nat (by omega)] at m0 m1 m2 m3
  simp only [Option.bind_some, m0, m1, m2, m3]
  have e4 : le4 m = [m / 256 ^ 0 % 256, m / 256 ^ 1 % 256, m / 256 ^ 2 % 256, m / 256 ^ 3 % 256] := by simp [le4]
  have : slotN s = headS s ++ [m / 256 ^ 0 % 256, m / 256 ^ 1 % 256, m / 256 ^ 2 % 256, m / 256 ^ 3 % 256] := by unfold slotN; rw [hm, e4]
  rw [this]
  rfl

/-! ### Encode -/
def slotB (s : SltQ) : Bool := (((decide (s.1 ≥ 1)) && (decide (s.1 ≤ 1000000000))) && (decide (s.2.1 ≥ 0))) && (decide (s.2.1 ≤ 1000000000))
theorem slot_Right (a : SltQ × Unit) : g_slot_Right a = some (slotB a.1) := rfl
theorem ref14_Right (a : SltQ × Unit) : g_ref14_Right a = some (slotB a.1) := by
  unfold g_ref14_Right slotB
  congr 1
  rw [Bool.eq_iff_iff]
  simp only [Bool.and_eq_true, decide_eq_true_eq]
  omega
theorem slotB_iff (s : SltQ) : slotB s = true ↔ 1 ≤ s.1 ∧ s.1 ≤ 1000000000 ∧ 0 ≤ s.2.1 ∧ s.2.1 ≤ 1000000000 := by
  unfold slotB
  simp only [Bool.and_eq_true, decide_eq_true_eq]
  omega
theorem slot_Encode (s : SltQ) : g_slot_Encode (s, ()) = some (if slotB s = true then (ints (slotN s), (0, ())) else ([], (1, ()))) := by
  unfold g_slot_Encode
  rw [slot_Right, slot_bytes]
  simp only [Option.bind_some]
  cases slotB s with
  | false => rfl
  | true =>
    simp only [Bool.not_true, cond_false, if_true]
    have := lst20_of (l := ints (slotN s)) (by rw [ints_length, slotN_len])
    generalize v20 (ints (slotN s)) = v at this
    unfold lst20 at this
    rw [this]
def outJ (n m j : Nat) : List Nat := (List.replicate (8 - j) 0 ++ be j n) ++ (List.replicate (8 - j) 0 ++ be j m)
theorem ref14_Encode {s : SltQ} (h : slotB s = true) : g_ref14_Encode (s, ()) = some (ints (slotN s)) := by
  obtain ⟨h1, h2, h3, h4⟩ := (slotB_iff s).1 h
  obtain ⟨n, hn⟩ : ∃ n : Nat, s.1 = (n : Int) := ⟨s.1.toNat, by omega⟩
  obtain ⟨m, hm⟩ : ∃ m : Nat, s.2.1 = (m : Int) := ⟨s.2.1.toNat, by omega⟩
  have e0 : headS s = outJ n m 8 := by
    unfold headS outJ
    rw [hn, hm, u64N_nat (by omega), u64N_nat (by omega)]
    rfl
  have hq := headS_byt s
  have hl := headS_len s
  unfold slotN
  rw [e0] at hq hl ⊢
  unfold g_ref14_Encode
  dsimp only
  rw [hn, hm]
  have hdiv : ∀ (x j : Nat), x ≤ 1000000000 → x / 256 ^ j ≤ 1000000000 := fun x j hx => Nat.le_trans (Nat.div_le_self _ _) hx
  have td : ∀ x : Nat, x ≤ 1000000000 → IntKind.wrap .i64 (Int.tdiv (x : Int) 256) = ((x / 256 : Nat) : Int) := by
    intro x hx
    rw [show Int.tdiv (x : Int) 256 = ((x / 256 : Nat) : Int) from tdiv_nat x 256, wrap_i64_in (by omega) (by omega)]
  have tm : ∀ x : Nat, IntKind.wrap .u8 (Int.tmod (x : Int) 256) = ((x % 256 : Nat) : Int) := by
    intro x
    rw [show Int.tmod (x : Int) 256 = ((x % 256 : Nat) : Int) from tmod_nat x 256, u8_nat, Nat.mod_mod]
  rw [loop_st (fun j => (((n / 256 ^ j : Nat) : Int), (((m / 256 ^ j : Nat) : Int), ((7 : Int) - (j : Int), (ints (outJ n m j), ()))))) (n := 8) (out := (ints (outJ n m 8), ())) ?_ ?_ ?_]
  · simp only [Option.bind_some]
    rw [ref_Sum (ns := outJ n m 8) hq (by omega)]
    simp only [Option.bind_some]
    have hlt : moreN 0 (outJ n m 8) < 4294967296 := more_lt (by omega) hq
    generalize moreN 0 (outJ n m 8) = x at hlt
    have ux : ∀ y : Nat, y < 4294967296 → IntKind.wrap .u32 (Int.tdiv (y : Int) 256) = ((y / 256 : Nat) : Int) := by
      intro y hy
      rw [show Int.tdiv (y : Int) 256 = ((y / 256 : Nat) : Int) from tdiv_nat y 256, wrap_u32_nat _ (by omega)]
    rw [loop_st (fun j => (ints (outJ n m 8 ++ (le4 x).take j), (((x / 256 ^ j : Nat) : Int), ((j : Int), ())))) (n := 4) (out := (ints (outJ n m 8 ++ le4 x), ())) ?_ ?_ ?_]
    · rfl
    · intro j hj
      have d : decide ((j : Int) < 4) = true := decide_eq_true (by omega)
      have hxj : x / 256 ^ j < 4294967296 := Nat.lt_of_le_of_lt (Nat.div_le_self _ _) hlt
      simp only [d, cond_true, tm, ux _ hxj, wrap_succ (n := j) (by omega)]
      rw [show (((x / 256 ^ j % 256 : Nat) : Int) :: [] : List Int) = ints [x / 256 ^ j % 256] from rfl, app_ints (by simp [hl, le4_length]; omega)]
      simp only [Option.bind_some]
      have e1 : (le4 x).take (j + 1) = (le4 x).take j ++ [x / 256 ^ j % 256] := (take_one (le4 x) j (by rw [le4_length]; exact hj)).trans (by rw [show (le4 x)[j]'(by rw [le4_length]; exact hj) = x / 256 ^ j % 256 from le4_get x j hj])
      have e2 : x / 256 ^ j / 256 = x / 256 ^ (j + 1) := by rw [Nat.div_div_eq_div_mul, ← Nat.pow_succ]
      rw [e1, e2, List.append_assoc]
    · rfl
    · simp
  · intro j hj
    have d : decide ((7 : Int) - (j : Int) ≥ 0) = true := decide_eq_true (by omega)
    have hnj := hdiv n j (by omega)
    have hmj := hdiv m j (by omega)
    have e1 : ∀ y : Nat, y / 256 ^ j / 256 = y / 256 ^ (j + 1) := fun y => by rw [Nat.div_div_eq_div_mul, ← Nat.pow_succ]
    have w1 : IntKind.wrap .i64 (8 + ((7 : Int) - (j : Int))) = ((15 - j : Nat) : Int) := by rw [wrap_i64_in (by omega) (by omega)]; omega
    have w2 : IntKind.wrap .i64 ((7 : Int) - (j : Int) - 1) = (7 : Int) - ((j + 1 : Nat) : Int) := by rw [wrap_i64_in (by omega) (by omega)]; omega
    have i1 : (7 : Int) - (j : Int) = ((7 - j : Nat) : Int) := by omega
    have hlen : (outJ n m j).length = 16 := by simp [outJ, be_length]; omega
    have in1 : inI ((7 - j : Nat) : Int) (ints (outJ n m j)).length = true := by unfold inI; rw [ints_length, hlen]; exact decide_eq_true (by omega)
    have in2 : ∀ y, inI ((15 - j : Nat) : Int) (List.set (ints (outJ n m j)) (7 - j) y).length = true := by intro y; unfold inI; rw [List.length_set, ints_length, hlen]; exact decide_eq_true (by omega)
    have g1 : ∃ y, (ints (outJ n m j))[7 - j]? = some y := ⟨_, List.getElem?_eq_getElem (by rw [ints_length, hlen]; omega)⟩
    have g2 : ∀ z, ∃ y, (List.set (ints (outJ n m j)) (7 - j) z)[15 - j]? = some y := fun z => ⟨_, List.getElem?_eq_getElem (by rw [List.length_set, ints_length, hlen]; omega)⟩
    simp only [d, cond_true, td _ hnj, td _ hmj, tm, e1, w1, w2]
    rw [i1]
    obtain ⟨y1, g1⟩ := g1
    obtain ⟨y2, g2⟩ := g2 (((n / 256 ^ j % 256 : Nat) : Int))
    simp only [in1, in2, cond_true, Int.toNat_natCast, g1, g2, Option.bind_some]
    congr 5
    match j, hj with
    | 0, _ => rfl
    | 1, _ => rfl
    | 2, _ => rfl
    | 3, _ => rfl
    | 4, _ => rfl
    | 5, _ => rfl
    | 6, _ => rfl
    | 7, _ => rfl
  · rfl
  · simp [outJ, be, ints]
end Go.AI
