/- crc: its last laws. -/
import Derived.Test.YtgelpkghkgagfaaPCrc
namespace Go.AI
set_option linter.unusedVariables false
set_option linter.unusedSimpArgs false

theorem u8_xor {a b : Nat} (ha : a < 256) (hb : b < 256) : bits .xor .u8 (a : Int) b = ((a ^^^ b : Nat) : Int) := u8_xor_nat a b ha hb

theorem ints_set (ns : List Nat) (i v : Nat) : (ints ns).set i (v : Int) = ints (ns.set i v) := by simp [ints, List.map_set]

theorem cut_ints {ns : List Nat} {k : Nat} (h : k ≤ ns.length) : cutO (ints ns) 0 (k : Int) = some (ints (ns.take k)) := by
  unfold cutO
  rw [if_pos (by simp [ints_length]; omega)]
  simp [ints, List.map_take]

def xor3 (a b c : List Nat) : List Nat := List.zipWith (· ^^^ ·) (List.zipWith (· ^^^ ·) a b) c
theorem xor3_length {a b c : List Nat} (hb : b.length = a.length) (hc : c.length = a.length) : (xor3 a b c).length = a.length := by simp [xor3, hb, hc]

theorem pure_g_snafflelaw02_CrcTurns (a b c : List Int) (ra : R_sl R_u8 a) (rb : R_sl R_u8 b) (rc : R_sl R_u8 c) : g_snafflelaw02_CrcTurns a b c = some true := by
  unfold g_snafflelaw02_CrcTurns
  rw [crc_awake]
  simp only [Option.bind_some, Bool.not_true, cond_false]
  by_cases hg : ((decide ((a.length : Int) > 2000) || decide ((b.length : Int) < (a.length : Int))) || decide ((c.length : Int) < (a.length : Int))) = true
  · rw [hg]; rfl
  rw [Bool.not_eq_true] at hg
  rw [hg, cond_false]
  simp only [Bool.or_eq_false_iff, decide_eq_false_iff_not] at hg
  obtain ⟨⟨h1, h2⟩, h3⟩ := hg
  rw [if_pos (room_le (m := 2000) (by omega) (by decide))]
  obtain ⟨a, rfl, ha⟩ := ints_of ra.2
  obtain ⟨b, rfl, hb⟩ := ints_of rb.2
  obtain ⟨c, rfl, hc⟩ := ints_of rc.2
  rw [ints_length] at h1 h2 h3
  rw [ints_length] at h2 h3
  -- of the longer ones, as much as of the first
  have hb' : (b.take a.length).length = a.length := by simp; omega
  have hc' : (c.take a.length).length = a.length := by simp; omega
  have mb : ∀ n ∈ b.take a.length, n < 256 := fun n h => hb n (List.mem_of_mem_take h)
  have mc : ∀ n ∈ c.take a.length, n < 256 := fun n h => hc n (List.mem_of_mem_take h)
  let W := xor3 a (b.take a.length) (c.take a.length)
  have hW : W.length = a.length := xor3_length hb' hc'
  have hw : ∀ i (hi : i < a.length), W[i]'(by omega) = a[i] ^^^ b[i]'(by omega) ^^^ c[i]'(by omega) := by
    intro i hi
    simp only [W, xor3, List.getElem_zipWith, List.getElem_take]
  have hloop := loop_fun (step := g_snafflelaw02_CrcTurns_l0 (ints a) (ints b) (ints c)) (n := a.length) (fun i => ints (W.take i ++ a.drop i)) (out := ints W) ?_ ?_ (Nat.zero_le _)
  · simp only [List.take_zero, List.drop_zero, List.nil_append] at hloop
    have h0 : ((0 : Int), ints a) = (((0 : Nat) : Int), ints a) := rfl
    rw [h0, hloop]
    have mW : ∀ n ∈ W, n < 256 := zip_lt (zip_lt ha mb) mc
    rw [ints_length, Option.bind_some, crc_Sum ha (by omega), cut_ints (by omega), cut_ints (by omega), crc_Sum mW (by omega)]
    simp only [Option.bind_some]
    rw [crc_Sum mb (by omega)]
    simp only [Option.bind_some]
    rw [crc_Sum mc (by omega)]
    simp only [Option.bind_some]
    rw [xor_u32 (more_lt (by omega) ha) (more_lt (by omega) mb), xor_u32 (xor_lt (more_lt (by omega) ha) (more_lt (by omega) mb)) (more_lt (by omega) mc),
      xor_u32 (xor_lt (xor_lt (more_lt (by omega) ha) (more_lt (by omega) mb)) (more_lt (by omega) mc)) (more_lt (by omega) mW)]
    have hx : moreN 0 W = moreN 0 a ^^^ moreN 0 (b.take a.length) ^^^ moreN 0 (c.take a.length) := by
      have e : (4294967295 : Nat) ^^^ 4294967295 ^^^ 4294967295 = 4294967295 := by decide
      have e1 : W.foldl stp 4294967295 = a.foldl stp 4294967295 ^^^ (b.take a.length).foldl stp 4294967295 ^^^ (c.take a.length).foldl stp 4294967295 := by
        conv => lhs; rw [← e]
        simp only [W, xor3]
        rw [fold_xor _ _ _ _ (by simp [hb', hc']), fold_xor _ _ _ _ hb'.symm]
      unfold moreN
      rw [Nat.xor_zero, e1]
      generalize a.foldl stp 4294967295 = x
      generalize (b.take a.length).foldl stp 4294967295 = y
      generalize (c.take a.length).foldl stp 4294967295 = z
      generalize (4294967295 : Nat) = F
      rw [xor4 F x F y, Nat.xor_self, Nat.zero_xor, ← Nat.xor_assoc (x ^^^ y) F z, Nat.xor_comm (x ^^^ y) F, Nat.xor_assoc F]
    rw [hx, Nat.xor_self]
    rfl
  · intro i hi
    have hl : (W.take i ++ a.drop i).length = a.length := by simp; omega
    have gi : ∀ (l : List Nat) (h : i < l.length), getO (ints l) (i : Int) = some (l[i] : Int) := by
      intro l h
      rw [getO_nat, ints_get, List.getElem?_eq_getElem h]; rfl
    unfold g_snafflelaw02_CrcTurns_l0
    simp only [gi a hi, gi b (by omega), gi c (by omega), gi _ (show i < (W.take i ++ a.drop i).length by omega), Option.bind_some, ints_length, hl]
    rw [show (decide ((i : Int) < (a.length : Int))) = true by simp; omega, cond_true, wrap_of (by omega) (by omega),
      u8_xor (ha _ (List.getElem_mem _)) (hb _ (List.getElem_mem _)), u8_xor (Nat.xor_lt_two_pow (n := 8) (ha _ (List.getElem_mem _)) (hb _ (List.getElem_mem _))) (hc _ (List.getElem_mem _)), Int.toNat_natCast, ints_set]
    have : (W.take i ++ a.drop i).set i (a[i] ^^^ b[i] ^^^ c[i]) = W.take (i + 1) ++ a.drop (i + 1) := by
      have hti : (W.take i).length = i := by simp; omega
      rw [← hw i hi, List.set_append_right _ _ (by omega), hti, Nat.sub_self, List.drop_eq_getElem_cons hi, List.set_cons_zero, List.take_succ_eq_append_getElem (by omega), List.append_assoc]
      rfl
    rw [this]
    rfl
  · unfold g_snafflelaw02_CrcTurns_l0
    have hl : (W.take a.length ++ a.drop a.length) = W := by rw [List.drop_length, List.append_nil, ← hW, List.take_length]
    rw [hl]
    simp [ints_length, hW]

theorem pure_g_snafflelaw02_CrcBurst (b : List Int) (k : Int) (y : Arr4 Int) (rb : R_sl R_u8 b) (rk : R_u16 k) (ry : R_arr4_u8 y) : g_snafflelaw02_CrcBurst b k y = some true := by
  unfold g_snafflelaw02_CrcBurst
  rw [crc_awake]
  simp only [Option.bind_some, Bool.not_true, cond_false]
  by_cases hg : (decide ((b.length : Int) > 2000) || ((b.length : Int) == 0)) = true
  · rw [hg]; rfl
  rw [Bool.not_eq_true] at hg
  rw [hg, cond_false]
  simp only [Bool.or_eq_false_iff, decide_eq_false_iff_not, beq_eq_false_iff_ne, ne_eq] at hg
  obtain ⟨h1, h2⟩ := hg
  rw [if_pos h2, if_pos (room_le (m := 2000) (by omega) (by decide))]
  obtain ⟨b, rfl, hb⟩ := ints_of rb.2
  rw [ints_length] at h1 h2
  unfold R_u16 at rk
  obtain ⟨f, hf⟩ := Int.eq_ofNat_of_zero_le (show 0 ≤ Int.tmod k (b.length : Int) from Int.tmod_nonneg _ rk.1)
  have hfl : (f : Int) < (b.length : Int) := by rw [← hf]; exact Int.tmod_lt_of_pos _ (by omega)
  have hk : IntKind.wrap .i64 k = k := wrap_of (by omega) (by omega)
  obtain ⟨y0, y1, y2, y3⟩ := y
  obtain ⟨r0, r1, r2, r3, _⟩ := ry
  simp only at r0 r1 r2 r3
  obtain ⟨ys, hys, my⟩ := ints_of (xs := [y0, y1, y2, y3]) (by intro x hx; simp at hx; rcases hx with rfl | rfl | rfl | rfl <;> assumption)
  have hyl : ys.length = 4 := by have := congrArg List.length hys; rw [ints_length] at this; exact this.symm
  let n := min 4 (b.length - f)
  have hn4 : n ≤ 4 := by omega
  have hnl : f + n ≤ b.length := by omega
  have hloop := loop_fun (step := g_snafflelaw02_CrcBurst_l0 (ints b) k ⟨y0, y1, y2, y3⟩) (n := n) (fun i => ((ys.take i).any (· != 0), ints (turn b f (ys.take i)))) (out := ((ys.take n).any (· != 0), ints (turn b f (ys.take n)))) ?_ ?_ (Nat.zero_le _)
  · simp only [List.take_zero, List.any_nil, turn_nil] at hloop
    have h0 : ((0 : Int), (false, ints b)) = (((0 : Nat) : Int), (false, ints b)) := rfl
    rw [h0, hloop]
    have m1 : ∀ x ∈ ys.take n, x < 256 := fun x hx => my x (List.mem_of_mem_take hx)
    have hl : (ys.take n).length = n := by simp; omega
    have ht : (turn b f (ys.take n)).length = b.length := turn_length (by omega)
    rw [Option.bind_some, crc_Sum (turn_lt hb m1) (by omega), crc_Sum hb (by omega)]
    simp only [Option.bind_some, Option.some.injEq]
    have hm := more_turn (k := f) hb m1 (by omega) (by omega)
    by_cases hz : ∀ c ∈ ys.take n, c = 0
    · rw [hm.2 hz]
      have : (ys.take n).any (· != 0) = false := by
        rw [List.any_eq_false]
        intro c hc
        simp [hz c hc]
      rw [this]
      simp
    · have hne : ¬ moreN 0 (turn b f (ys.take n)) = moreN 0 b := fun h => hz (hm.1 h)
      have : (ys.take n).any (· != 0) = true := by
        rw [List.any_eq_true]
        simp only [Classical.not_forall] at hz
        obtain ⟨c, hc, h⟩ := hz
        exact ⟨c, hc, by simpa using h⟩
      rw [this]
      simp only [Bool.not_true, beq_eq_false_iff_ne, ne_eq, beq_iff_eq, Bool.eq_false_iff]
      omega
  · intro i hi
    have hi4 : i < 4 := by omega
    have hly : (ys.take i).length = i := by simp; omega
    have gb : getO (ints b) ((f + i : Nat) : Int) = some (b[f + i]'(by omega) : Int) := by rw [getO_nat, ints_get, List.getElem?_eq_getElem (by omega)]; rfl
    have gy : getO [y0, y1, y2, y3] (i : Int) = some (ys[i]'(by omega) : Int) := by rw [hys, getO_nat, ints_get, List.getElem?_eq_getElem (by omega)]; rfl
    have ht : (turn b f (ys.take i)).length = b.length := turn_length (by omega)
    have gt : getO (ints (turn b f (ys.take i))) ((f + i : Nat) : Int) = some ((turn b f (ys.take i))[f + i]'(by omega) : Int) := by rw [getO_nat, ints_get, List.getElem?_eq_getElem (by omega)]; rfl
    have hadd : IntKind.wrap .i64 ((f : Int) + (i : Int)) = ((f + i : Nat) : Int) := by rw [wrap_of (by omega) (by omega)]; omega
    unfold g_snafflelaw02_CrcBurst_l0
    simp only [ints_length, hk, hf, hadd, gb, gy, gt, Option.bind_some]
    rw [show (decide ((i : Int) < 4) && decide (((f + i : Nat) : Int) < (b.length : Int))) = true by simp; omega, cond_true, wrap_of (n := (i : Int) + 1) (by omega) (by omega),
      u8_xor (hb _ (List.getElem_mem _)) (my _ (List.getElem_mem _)), Int.toNat_natCast, ints_set]
    have e1 : ys.take (i + 1) = ys.take i ++ [ys[i]'(by omega)] := List.take_succ_eq_append_getElem (by omega)
    have e2 := turn_snoc (ns := b) (ys := ys.take i) (k := f) (y := ys[i]'(by omega)) (by omega)
    simp only [hly] at e2
    rw [e1, e2]
    have e3 : (ys.take i ++ [ys[i]'(by omega)]).any (· != 0) = ((ys.take i).any (· != 0) || ((ys[i]'(by omega) : Int) != 0)) := by
      rw [List.any_append]
      simp only [List.any_cons, List.any_nil, Bool.or_false]
      congr 1
      rw [Bool.eq_iff_iff]
      simp
    rw [e3]
    cases (ys.take i).any (· != 0) <;> rfl
  · unfold g_snafflelaw02_CrcBurst_l0
    have hadd : IntKind.wrap .i64 ((f : Int) + (n : Int)) = ((f + n : Nat) : Int) := by rw [wrap_of (by omega) (by omega)]; omega
    simp only [ints_length, hk, hf, hadd]
    rw [show (decide ((n : Int) < 4) && decide (((f + n : Nat) : Int) < (b.length : Int))) = false by
      rw [Bool.and_eq_false_iff]
      simp only [decide_eq_false_iff_not]
      omega]
    rfl
end Go.AI
