/- disk: what is kept, and what lasts (of the texts XFrameA, XFrameC, XFrameD, without their laws). -/
import Derived.Test.YtbcffodjbbcdhaaXCrc
import Derived.Test.YtbcffodjbbcdhaaXBytes
namespace Go.AI
open IntKind

theorem u64_nat (x : Int) : ∃ n : Nat, IntKind.wrap .u64 x = (n : Int) ∧ n < 18446744073709551616 := by
  have h : IntKind.wrap .u64 x = x % 18446744073709551616 := by simp [IntKind.wrap, IntKind.bits, IntKind.signed]
  exact ⟨(x % 18446744073709551616).toNat, by rw [h]; omega, by omega⟩
theorem four_ints (n : Nat) : ((IntKind.wrap .u8 (Int.fdiv (n : Int) (2 ^ 24))) :: ((IntKind.wrap .u8 (Int.fdiv (n : Int) (2 ^ 16))) :: ((IntKind.wrap .u8 (Int.fdiv (n : Int) (2 ^ 8))) :: ((IntKind.wrap .u8 (n : Int)) :: [])))) = ints (be 4 n) := by
  simp only [fdiv_pow, u8_nat, be, ints, List.map_cons, List.map_nil, Nat.pow_zero, Nat.div_one, Nat.reducePow]
theorem eight_ints (n : Nat) : be 4 (n / 2 ^ 32) ++ be 4 n = be 8 n := by
  simp only [be, List.cons_append, List.nil_append, Nat.div_div_eq_div_mul, Nat.reducePow, Nat.reduceMul]
def le4 (s : Nat) : List Nat := [s % 256, s / 256 % 256, s / 65536 % 256, s / 16777216 % 256]
theorem sum_ints (s : Nat) : ((IntKind.wrap .u8 (s : Int)) :: ((IntKind.wrap .u8 (Int.fdiv (s : Int) (2 ^ 8))) :: ((IntKind.wrap .u8 (Int.fdiv (s : Int) (2 ^ 16))) :: ((IntKind.wrap .u8 (Int.fdiv (s : Int) (2 ^ 24))) :: [])))) = ints (le4 s) := by
  simp only [fdiv_pow, u8_nat, le4, ints, List.map_cons, List.map_nil, Nat.reducePow]
theorem sum_ref {s : Nat} (h : s < 4294967296) : ((IntKind.wrap .u8 (Int.tmod (s : Int) 256)) :: ((IntKind.wrap .u8 (Int.tmod (IntKind.wrap .u32 (Int.tdiv (s : Int) 256)) 256)) :: ((IntKind.wrap .u8 (Int.tmod (IntKind.wrap .u32 (Int.tdiv (s : Int) 65536)) 256)) :: ((IntKind.wrap .u8 (IntKind.wrap .u32 (Int.tdiv (s : Int) 16777216))) :: [])))) = ints (le4 s) := by
  have td : ∀ m : Nat, Int.tdiv (s : Int) (m : Int) = ((s / m : Nat) : Int) := fun m => by rw [Int.tdiv_eq_ediv_of_nonneg (by omega)]; rfl
  have tm : ∀ t m : Nat, Int.tmod (t : Int) (m : Int) = ((t % m : Nat) : Int) := fun t m => by rw [Int.tmod_eq_emod_of_nonneg (by omega)]; rfl
  have e1 := td 256
  have e2 := td 65536
  have e3 := td 16777216
  have w : ∀ t : Nat, t < 4294967296 → IntKind.wrap .u32 (t : Int) = (t : Int) := fun t ht => by rw [IntKind.wrap_u32']; omega
  have d2 : s / 256 < 4294967296 := by omega
  have d3 : s / 65536 < 4294967296 := by omega
  have d4 : s / 16777216 < 4294967296 := by omega
  have m1 := tm s 256
  have m2 := tm (s / 256) 256
  have m3 := tm (s / 65536) 256
  simp only [Int.cast_ofNat_Int] at e1 e2 e3 m1 m2 m3
  rw [e1, e2, e3, w _ d2, w _ d3, w _ d4, m1, m2, m3]
  simp only [u8_nat, le4, ints, List.map_cons, List.map_nil, Nat.mod_mod]
/-- The bytes before the sum. -/
def textN (e l k b1 b2 b3 b4 b5 b6 : Nat) : List Nat := [] ++ be 4 72 ++ be 4 e ++ be 8 l ++ be 4 k ++ be 8 b1 ++ be 8 b2 ++ be 8 b3 ++ be 8 b4 ++ be 8 b5 ++ be 8 b6
theorem textN_lt (e l k b1 b2 b3 b4 b5 b6 : Nat) : ∀ x ∈ textN e l k b1 b2 b3 b4 b5 b6, x < 256 := by
  intro x hx
  simp only [textN, List.mem_append, List.not_mem_nil, false_or] at hx
  rcases hx with (((((((((h | h) | h) | h) | h) | h) | h) | h) | h) | h) <;> exact be_lt _ _ x h
theorem textN_length (e l k b1 b2 b3 b4 b5 b6 : Nat) : (textN e l k b1 b2 b3 b4 b5 b6).length = 68 := by
  simp [textN, be_length]
def codeN (e l k b1 b2 b3 b4 b5 b6 : Nat) : List Nat := textN e l k b1 b2 b3 b4 b5 b6 ++ le4 (moreN 0 (textN e l k b1 b2 b3 b4 b5 b6))
theorem take_one (l : List Nat) (i : Nat) (h : i < l.length) : l.take (i + 1) = l.take i ++ [l[i]] := List.take_succ_eq_append_getElem h
theorem take_loop (bs : List Nat) (hb : ∀ x ∈ bs, x < 256) (hl : bs.length ≤ 8) :
    loopO (fun (v : Int × (Int × Unit)) => bif (decide (v.2.1 < ((ints bs).length : Int))) then ((getI (ints bs) v.2.1)).bind (fun (w : Int) => some (.inl ((Go.bits Go.BinOp.or Go.IntKind.u64 (IntKind.wrap .u64 (v.1 * (2 ^ 8))) (IntKind.wrap .u64 w)), ((IntKind.wrap .i64 (v.2.1 + 1)), ())))) else (some (v.1, ())).map .inr) (0, (0, ()))
    = some (((vl bs : Nat) : Int), ()) := by
  refine loop_up0 bs.length (fun i => ((vl (bs.take i) : Nat) : Int)) ?_ ?_ (by rfl)
  · intro i hi
    have hx := hb bs[i] (List.getElem_mem hi)
    have hv : vl (bs.take i) < 256 ^ (bs.take i).length := vl_lt fun x hx => hb x (List.mem_of_mem_take hx)
    have hle : (bs.take i).length ≤ 7 := by simp; omega
    have hp : 256 ^ (bs.take i).length ≤ 256 ^ 7 := Nat.pow_le_pow_right (by decide) hle
    have hv' : vl (bs.take i) < 72057594037927936 := Nat.lt_of_lt_of_le hv hp
    have d : decide ((i : Int) < ((ints bs).length : Int)) = true := decide_eq_true (by rw [ints_length]; omega)
    have w1 : IntKind.wrap .u64 (((vl (bs.take i) : Nat) : Int) * (2 ^ 8)) = ((vl (bs.take i) * 256 : Nat) : Int) := by
      have h : ∀ n : Int, IntKind.wrap .u64 n = n % 18446744073709551616 := fun n => by simp [IntKind.wrap, IntKind.bits, IntKind.signed]
      rw [h]; omega
    have w2 : IntKind.wrap .u64 ((bs[i] : Nat) : Int) = ((bs[i] : Nat) : Int) := by
      have h : ∀ n : Int, IntKind.wrap .u64 n = n % 18446744073709551616 := fun n => by simp [IntKind.wrap, IntKind.bits, IntKind.signed]
      rw [h]; omega
    have w3 := wrap_succ (n := i) (by omega)
    have e : vl (bs.take (i + 1)) = vl (bs.take i) * 256 + bs[i] := by
      rw [take_one bs i hi, vl_append]
      simp [vl]
    simp only [d, cond_true, getI_ints hi, Option.bind_some, w1, w2, w3]
    rw [u64_or_nat _ _ (by omega) (by omega), nat_join 8 _ _ (by omega) (by omega), e]
  · have d : decide (((bs.length : Nat) : Int) < ((ints bs).length : Int)) = false := decide_eq_false (by rw [ints_length]; omega)
    simp only [d, cond_false, List.take_length]
    rfl
theorem le4_length (s : Nat) : (le4 s).length = 4 := rfl
theorem le4_get (s i : Nat) (h : i < 4) : (le4 s)[i]'h = s / 256 ^ i % 256 := by
  match i, h with
  | 0, _ => simp [le4]
  | 1, _ => simp [le4]
  | 2, _ => simp [le4]
  | 3, _ => simp [le4]
theorem check_loop (ds : List Nat) (s : Nat) (hd : ds.length = 4) :
    loopO (fun (v : Bool × (Int × Unit)) => bif (decide (v.2.1 < ((ints ds).length : Int))) then ((getI (ints ds) v.2.1)).bind (fun (w : Int) => (bif v.1 then bif (decide (0 ≤ (IntKind.wrap .i64 (8 * v.2.1)))) then some (w == (IntKind.wrap .u8 (Int.fdiv (s : Int) (2 ^ (Min.min (Int.toNat (IntKind.wrap .i64 (8 * v.2.1))) 32))))) else none else some false).bind (fun (x : Bool) => some (.inl (x, ((IntKind.wrap .i64 (v.2.1 + 1)), ()))))) else (some (v.1, ())).map .inr) (true, (0, ()))
    = some (decide (ds = le4 s), ()) := by
  refine loop_up0 4 (fun i => decide (ds.take i = (le4 s).take i)) ?_ ?_ (by rfl)
  · intro i hi
    have hi' : i < ds.length := by omega
    have d : decide ((i : Int) < ((ints ds).length : Int)) = true := decide_eq_true (by rw [ints_length]; omega)
    have e8 : IntKind.wrap .i64 (8 * (i : Int)) = ((8 * i : Nat) : Int) := by rw [wrap_i64_in (by omega) (by omega)]; norm_cast
    have em : Min.min (Int.toNat ((8 * i : Nat) : Int)) 32 = 8 * i := by rw [Int.toNat_natCast]; omega
    have ep : (2 : Nat) ^ (8 * i) = 256 ^ i := by rw [Nat.pow_mul]
    have d2 : decide ((0 : Int) ≤ ((8 * i : Nat) : Int)) = true := decide_eq_true (by omega)
    have w3 := wrap_succ (n := i) (by omega)
    have k : decide (ds.take (i + 1) = (le4 s).take (i + 1)) = (bif decide (ds.take i = (le4 s).take i) then (((ds[i] : Nat) : Int) == ((s / 256 ^ i % 256 : Nat) : Int)) else false) := by
      rw [take_one ds i hi', take_one (le4 s) i hi, le4_get s i hi, Bool.eq_iff_iff]
      have hln : (ds.take i).length = ((le4 s).take i).length := by simp [le4_length]; omega
      by_cases h : ds.take i = (le4 s).take i
      · simp only [h, decide_true, cond_true, decide_eq_true_eq, beq_iff_eq, List.append_cancel_left_eq, List.cons.injEq, and_true]
        omega
      · simp only [h, decide_false, cond_false, decide_eq_true_eq, Bool.false_eq_true, iff_false]
        intro h2
        exact h (List.append_inj_left h2 hln)
    simp only [d, cond_true, getI_ints hi', Option.bind_some, e8, em, d2, fdiv_pow, ep, u8_nat, w3, k]
    cases decide (ds.take i = (le4 s).take i) <;> rfl
  · have d : decide (((4 : Nat) : Int) < ((ints ds).length : Int)) = false := decide_eq_false (by rw [ints_length, hd]; omega)
    have t1 : ds.take 4 = ds := List.take_of_length_le (by omega)
    have t2 : (le4 s).take 4 = le4 s := rfl
    simp only [d, cond_false, t1, t2]
    rfl
def byt (l : List Nat) : Prop := ∀ x ∈ l, x < 256
theorem byt_take {l : List Nat} (k : Nat) (h : byt l) : byt (l.take k) := fun x hx => h x (List.mem_of_mem_take hx)
theorem byt_drop {l : List Nat} (k : Nat) (h : byt l) : byt (l.drop k) := fun x hx => h x (List.mem_of_mem_drop hx)
theorem sub_take (l : List Nat) (k : Nat) (h : k ≤ l.length) : subI (ints l) 0 (k : Int) = some (ints (l.take k)) := by
  have := subI_nat (ints l) (a := 0) (b := k) (by omega) (by rw [ints_length]; exact h)
  rw [show ((0 : Nat) : Int) = 0 from rfl] at this
  rw [this, List.drop_zero, ints_take]
theorem sub_drop (l : List Nat) (k : Nat) (h : k ≤ l.length) : subI (ints l) (k : Int) ((ints l).length : Int) = some (ints (l.drop k)) := by
  have := subI_nat (ints l) (a := k) (b := (ints l).length) (by rw [ints_length]; exact h) (Nat.le_refl _)
  rw [this, List.take_length, ints_drop]
theorem sub_take4 (l : List Nat) (h : 4 ≤ l.length) : subI (ints l) 0 4 = some (ints (l.take 4)) := sub_take l 4 h
theorem sub_take8 (l : List Nat) (h : 8 ≤ l.length) : subI (ints l) 0 8 = some (ints (l.take 8)) := sub_take l 8 h
theorem sub_take68 (l : List Nat) (h : 68 ≤ l.length) : subI (ints l) 0 68 = some (ints (l.take 68)) := sub_take l 68 h
theorem sub_drop4 (l : List Nat) (h : 4 ≤ l.length) : subI (ints l) 4 ((ints l).length : Int) = some (ints (l.drop 4)) := sub_drop l 4 h
theorem sub_drop8 (l : List Nat) (h : 8 ≤ l.length) : subI (ints l) 8 ((ints l).length : Int) = some (ints (l.drop 8)) := sub_drop l 8 h
theorem sub_drop68 (l : List Nat) (h : 68 ≤ l.length) : subI (ints l) 68 ((ints l).length : Int) = some (ints (l.drop 68)) := sub_drop l 68 h
theorem take_byt (l : List Nat) (k : Nat) (hb : byt l) (hk : k ≤ 8) :
    loopO (fun (v : Int × (Int × Unit)) => bif (decide (v.2.1 < ((ints (l.take k)).length : Int))) then ((getI (ints (l.take k)) v.2.1)).bind (fun (w : Int) => some (.inl ((Go.bits Go.BinOp.or Go.IntKind.u64 (IntKind.wrap .u64 (v.1 * (2 ^ 8))) (IntKind.wrap .u64 w)), ((IntKind.wrap .i64 (v.2.1 + 1)), ())))) else (some (v.1, ())).map .inr) (0, (0, ()))
    = some (((vl (l.take k) : Nat) : Int), ()) := take_loop (l.take k) (byt_take k hb) (by rw [List.length_take]; omega)
/-- The number of some bytes of what stands before the sum. -/
def numB (t : List Nat) (i k : Nat) : Int := IntKind.wrap .i64 ((vl ((t.drop i).take k) : Nat) : Int)
end Go.AI
