/- frame: the reference's decoder; any frame's bytes, and any bytes' frame, are what the document says. -/
import Derived.Test.YthmgondhniecnaaXFrameD
import Derived.KernelRfl
namespace Go.AI
theorem or_i64 (x y : Nat) (hx : x < 4294967296) (hy : y < 4294967296) : Go.bits Go.BinOp.or Go.IntKind.i64 (IntKind.wrap .i64 ((x : Int) * (2 ^ 32))) (y : Int) = IntKind.wrap .i64 ((x * 4294967296 + y : Nat) : Int) := by
  show IntKind.i64.wrap ((BitVec.ofInt 64 (IntKind.wrap .i64 ((x : Int) * (2 ^ 32))) ||| BitVec.ofInt 64 (y : Int)).toNat : Int) = _
  have h1 : (BitVec.ofInt 64 (IntKind.wrap .i64 ((x : Int) * (2 ^ 32)))).toNat = x * 4294967296 := by
    rw [BitVec.toNat_ofInt]
    have := IntKind.wrap_i64 ((x : Int) * (2 ^ 32))
    omega
  rw [BitVec.toNat_or, h1, ofInt_u64 y (by omega), nat_join 32 _ _ (by omega) (by omega)]
theorem drop_four (bs : List Nat) (i : Nat) (h : i + 4 ≤ bs.length) : (bs.drop i).take 4 = [bs[i], bs[i + 1], bs[i + 2], bs[i + 3]] := by
  rw [List.drop_eq_getElem_cons (by omega), List.drop_eq_getElem_cons (i := i + 1) (by omega), List.drop_eq_getElem_cons (i := i + 1 + 1) (by omega), List.drop_eq_getElem_cons (i := i + 1 + 1 + 1) (by omega)]
  rfl
theorem ref_number (bs : List Nat) (hb : byt bs) (i : Nat) (h : i + 4 ≤ bs.length) (hl : bs.length ≤ 1000) : g_ref04_number (ints bs, ((i : Int), ())) = some ((vl ((bs.drop i).take 4) : Nat) : Int) := by
  have w1 : IntKind.wrap .i64 ((i : Int) + 1) = ((i + 1 : Nat) : Int) := wrap_succ (by omega)
  have w2 : IntKind.wrap .i64 ((i : Int) + 2) = ((i + 2 : Nat) : Int) := by rw [wrap_i64_in (by omega) (by omega)]; rfl
  have w3 : IntKind.wrap .i64 ((i : Int) + 3) = ((i + 3 : Nat) : Int) := by rw [wrap_i64_in (by omega) (by omega)]; rfl
  have g0 := hb _ (List.getElem_mem (l := bs) (n := i) (by omega))
  have g1 := hb _ (List.getElem_mem (l := bs) (n := i + 1) (by omega))
  have g2 := hb _ (List.getElem_mem (l := bs) (n := i + 2) (by omega))
  have g3 := hb _ (List.getElem_mem (l := bs) (n := i + 3) (by omega))
  unfold g_ref04_number
  rw [drop_four bs i h]
  simp only [w1, w2, w3, getI_ints (ns := bs) (i := i) (by omega), getI_ints (ns := bs) (i := i + 1) (by omega), getI_ints (ns := bs) (i := i + 2) (by omega), getI_ints (ns := bs) (i := i + 3) (by omega), Option.bind_some]
  generalize bs[i]'(by omega) = a at *
  generalize bs[i + 1]'(by omega) = b at *
  generalize bs[i + 2]'(by omega) = c at *
  generalize bs[i + 3]'(by omega) = d at *
  simp only [vl, List.foldl_cons, List.foldl_nil]
  congr 1
  rw [wrap_i64_in (n := (a : Int)) (by omega) (by omega), wrap_i64_in (n := (b : Int)) (by omega) (by omega), wrap_i64_in (n := (c : Int)) (by omega) (by omega), wrap_i64_in (n := (d : Int)) (by omega) (by omega)]
  rw [wrap_i64_in (n := (a : Int) * 2 ^ 24) (by omega) (by omega), wrap_i64_in (n := (b : Int) * 2 ^ 16) (by omega) (by omega), wrap_i64_in (n := (c : Int) * 2 ^ 8) (by omega) (by omega)]
  rw [wrap_i64_in (n := (a : Int) * 2 ^ 24 + (b : Int) * 2 ^ 16) (by omega) (by omega), wrap_i64_in (n := (a : Int) * 2 ^ 24 + (b : Int) * 2 ^ 16 + (c : Int) * 2 ^ 8) (by omega) (by omega), wrap_i64_in (by omega) (by omega)]
  omega
theorem vl_eight (bs : List Nat) (i : Nat) (h : i + 8 ≤ bs.length) : vl ((bs.drop i).take 8) = vl ((bs.drop i).take 4) * 4294967296 + vl ((bs.drop (i + 4)).take 4) := by
  have e : (bs.drop i).take 8 = (bs.drop i).take 4 ++ (bs.drop (i + 4)).take 4 := by
    rw [show (8 : Nat) = 4 + 4 from rfl, List.take_add, List.drop_drop]
  have hl : ((bs.drop (i + 4)).take 4).length = 4 := by simp; omega
  rw [e, vl_append, hl]
theorem cond_some {α : Type} (c : Bool) (a b : α) : (bif c then some a else some b) = some (bif c then a else b) := by cases c <;> rfl
theorem num_four {bs : List Nat} (hb : byt bs) {i : Nat} (h : i + 4 ≤ 68) : ((vl ((bs.drop i).take 4) : Nat) : Int) = numB (bs.take 68) i 4 := by
  have e : ((bs.take 68).drop i).take 4 = (bs.drop i).take 4 := by
    rw [List.drop_take, List.take_take]; congr 1; omega
  have hlt : vl ((bs.drop i).take 4) < 256 ^ ((bs.drop i).take 4).length := vl_lt (byt_take 4 (byt_drop i hb))
  have hp : 256 ^ ((bs.drop i).take 4).length ≤ 256 ^ 4 := Nat.pow_le_pow_right (by decide) (by rw [List.length_take]; omega)
  unfold numB
  rw [e, wrap_i64_in (by omega) (by omega)]
theorem vl_four_lt {bs : List Nat} (hb : byt bs) (i : Nat) : vl ((bs.drop i).take 4) < 4294967296 := by
  have hlt : vl ((bs.drop i).take 4) < 256 ^ ((bs.drop i).take 4).length := vl_lt (byt_take 4 (byt_drop i hb))
  have hp : 256 ^ ((bs.drop i).take 4).length ≤ 256 ^ 4 := Nat.pow_le_pow_right (by decide) (by rw [List.length_take]; omega)
  omega
theorem num_eight {bs : List Nat} (hb : byt bs) {i : Nat} (h : i + 8 ≤ 68) (hl : bs.length = 72) : Go.bits Go.BinOp.or Go.IntKind.i64 (IntKind.wrap .i64 (((vl ((bs.drop i).take 4) : Nat) : Int) * (2 ^ 32))) ((vl ((bs.drop (i + 4)).take 4) : Nat) : Int) = numB (bs.take 68) i 8 := by
  have e : ((bs.take 68).drop i).take 8 = (bs.drop i).take 8 := by
    rw [List.drop_take, List.take_take]; congr 1; omega
  rw [or_i64 _ _ (vl_four_lt hb i) (vl_four_lt hb (i + 4)), ← vl_eight bs i (by omega)]
  unfold numB
  rw [e]
theorem ref_Decode (bs : List Nat) (hb : byt bs) : g_ref04_Decode (ints bs, ()) = some (decF bs) := by
  unfold g_ref04_Decode decF
  by_cases hl : bs.length = 72
  rotate_left
  · have b : (((ints bs).length : Int) != 72) = true := by rw [ints_length]; simp; omega
    simp only [b, cond_true, Option.bind_some]
    rw [if_pos hl]
    rfl
  have b : (((ints bs).length : Int) != 72) = false := by rw [ints_length]; simp; omega
  have N : ∀ i : Nat, i + 4 ≤ 72 → g_ref04_number (ints bs, ((i : Int), ())) = some ((vl ((bs.drop i).take 4) : Nat) : Int) := fun i h => ref_number bs hb i (by omega) (by omega)
  have n0 : g_ref04_number (ints bs, (0, ())) = _ := N 0 (by omega)
  have n4 : g_ref04_number (ints bs, (4, ())) = _ := N 4 (by omega)
  have n8 : g_ref04_number (ints bs, (8, ())) = _ := N 8 (by omega)
  have n12 : g_ref04_number (ints bs, (12, ())) = _ := N 12 (by omega)
  have n16 : g_ref04_number (ints bs, (16, ())) = _ := N 16 (by omega)
  have n20 : g_ref04_number (ints bs, (20, ())) = _ := N 20 (by omega)
  have n24 : g_ref04_number (ints bs, (24, ())) = _ := N 24 (by omega)
  have n28 : g_ref04_number (ints bs, (28, ())) = _ := N 28 (by omega)
  have n32 : g_ref04_number (ints bs, (32, ())) = _ := N 32 (by omega)
  have n36 : g_ref04_number (ints bs, (36, ())) = _ := N 36 (by omega)
  have n40 : g_ref04_number (ints bs, (40, ())) = _ := N 40 (by omega)
  have n44 : g_ref04_number (ints bs, (44, ())) = _ := N 44 (by omega)
  have n48 : g_ref04_number (ints bs, (48, ())) = _ := N 48 (by omega)
  have n52 : g_ref04_number (ints bs, (52, ())) = _ := N 52 (by omega)
  have n56 : g_ref04_number (ints bs, (56, ())) = _ := N 56 (by omega)
  have n60 : g_ref04_number (ints bs, (60, ())) = _ := N 60 (by omega)
  have n64 : g_ref04_number (ints bs, (64, ())) = _ := N 64 (by omega)
  have i1 : IntKind.wrap .i64 (0 + 1) = 1 := rfl
  have i2 : IntKind.wrap .i64 (1 + 1) = 2 := rfl
  have i3 : IntKind.wrap .i64 (2 + 1) = 3 := rfl
  have i4 : IntKind.wrap .i64 (3 + 1) = 4 := rfl
  have i5 : IntKind.wrap .i64 (4 + 1) = 5 := rfl
  have j0 : IntKind.wrap .i64 (8 * 0) = 0 := rfl
  have j1 : IntKind.wrap .i64 (8 * 1) = 8 := rfl
  have j2 : IntKind.wrap .i64 (8 * 2) = 16 := rfl
  have j3 : IntKind.wrap .i64 (8 * 3) = 24 := rfl
  have j4 : IntKind.wrap .i64 (8 * 4) = 32 := rfl
  have j5 : IntKind.wrap .i64 (8 * 5) = 40 := rfl
  have k20 : IntKind.wrap .i64 (20 + 0) = 20 := rfl
  have k24 : IntKind.wrap .i64 (24 + 0) = 24 := rfl
  have k28 : IntKind.wrap .i64 (20 + 8) = 28 := rfl
  have k32 : IntKind.wrap .i64 (24 + 8) = 32 := rfl
  have k36 : IntKind.wrap .i64 (20 + 16) = 36 := rfl
  have k40 : IntKind.wrap .i64 (24 + 16) = 40 := rfl
  have k44 : IntKind.wrap .i64 (20 + 24) = 44 := rfl
  have k48 : IntKind.wrap .i64 (24 + 24) = 48 := rfl
  have k52 : IntKind.wrap .i64 (20 + 32) = 52 := rfl
  have k56 : IntKind.wrap .i64 (24 + 32) = 56 := rfl
  have k60 : IntKind.wrap .i64 (20 + 40) = 60 := rfl
  have k64 : IntKind.wrap .i64 (24 + 40) = 64 := rfl
  have bt := byt_take 68 hb
  have ht : (bs.take 68).length = 68 := by simp [hl]
  have hs := ref_Sum (ns := bs.take 68) bt (by omega)
  have q68 : getI (ints bs) 68 = some ((bs[68] : Nat) : Int) := getI_ints (i := 68) (by omega)
  have q69 : getI (ints bs) 69 = some ((bs[69] : Nat) : Int) := getI_ints (i := 69) (by omega)
  have q70 : getI (ints bs) 70 = some ((bs[70] : Nat) : Int) := getI_ints (i := 70) (by omega)
  have q71 : getI (ints bs) 71 = some ((bs[71] : Nat) : Int) := getI_ints (i := 71) (by omega)
  have hd : bs.drop 68 = [bs[68], bs[69], bs[70], bs[71]] := by
    rw [← drop_four bs 68 (by omega), List.take_of_length_le (by simp; omega)]
  simp only [b, cond_false, i1, i2, i3, i4, i5, j0, j1, j2, j3, j4, j5, k20, k24, k28, k32, k36, k40, k44, k48, k52, k56, k60, k64, n0, n4, n8, n12, n16, n20, n24, n28, n32, n36, n40, n44, n48, n52, n56, n60, n64, Option.bind_some, sub_take68 bs (by omega), hs, q68, q69, q70, q71, hd, fdiv_pow, u8_nat, List.drop_zero, cond_some]
  generalize moreN 0 (bs.take 68) = m at *
  by_cases hv : vl (bs.take 4) = 72
  rotate_left
  · have bv : (((vl (bs.take 4) : Nat) : Int) != 72) = true := by simp; omega
    simp [bv, hv, hl, noF]
  have bv : (((vl (bs.take 4) : Nat) : Int) != 72) = false := by simp; omega
  have hc : ([bs[68], bs[69], bs[70], bs[71]] = le4 m) ↔ (bs[68] = m % 256 ∧ bs[69] = m / 256 % 256 ∧ bs[70] = m / 65536 % 256 ∧ bs[71] = m / 16777216 % 256) := by simp [le4]
  have hne : ∀ x y : Nat, ((x : Int) != (y : Int)) = decide (x ≠ y) := by
    intro x y
    rw [Bool.eq_iff_iff, bne_iff_ne, decide_eq_true_eq]
    omega
  have f4 := num_four (i := 4) hb (by omega)
  have f16 := num_four (i := 16) hb (by omega)
  have e8 := num_eight (i := 8) hb (by omega) hl
  have e20 := num_eight (i := 20) hb (by omega) hl
  have e28 := num_eight (i := 28) hb (by omega) hl
  have e36 := num_eight (i := 36) hb (by omega) hl
  have e44 := num_eight (i := 44) hb (by omega) hl
  have e52 := num_eight (i := 52) hb (by omega) hl
  have e60 := num_eight (i := 60) hb (by omega) hl
  simp only [Nat.reduceAdd] at e8 e20 e28 e36 e44 e52 e60
  simp only [bv, cond_false, hne, Nat.reducePow, f4, f16, e8, e20, e28, e36, e44, e52, e60, ref04_Right, Option.bind_some]
  rw [if_neg (by simp [hl]), if_neg (by simp [hv])]
  by_cases hcc : [bs[68], bs[69], bs[70], bs[71]] = le4 m
  · obtain ⟨c1, c2, c3, c4⟩ := hc.1 hcc
    rw [if_neg (by simp [hcc])]
    simp only [c1, c2, c3, c4, ne_eq, not_true, decide_false, cond_false]
    show some (bif !frmB (frmF (bs.take 68)) then (noF, ((2 : Int), ())) else (frmF (bs.take 68), ((0 : Int), ()))) = _
    cases frmB (frmF (bs.take 68)) <;> rfl
  · rw [if_pos hcc]
    have : (bif bif bif decide (bs[68] ≠ m % 256) then true else decide (bs[69] ≠ m / 256 % 256) then true else decide (bs[70] ≠ m / 65536 % 256) then true else decide (bs[71] ≠ m / 16777216 % 256)) = true := by
      by_cases c1 : bs[68] = m % 256 <;> by_cases c2 : bs[69] = m / 256 % 256 <;> by_cases c3 : bs[70] = m / 65536 % 256 <;> by_cases c4 : bs[71] = m / 16777216 % 256 <;> simp only [c1, c2, c3, c4, ne_eq, not_true, not_false_iff, decide_false, decide_true, cond_true, cond_false]
      exact absurd (hc.2 ⟨c1, c2, c3, c4⟩) hcc
    rw [this]
    rfl
end Go.AI
