/- frame: numbers taken out of bytes; the sum looked at. -/
import Derived.Test.YthmgondhniecnaaXFrameB
namespace Go.AI
theorem take_one (l : List Nat) (i : Nat) (h : i < l.length) : l.take (i + 1) = l.take i ++ [l[i]] := List.take_succ_eq_append_getElem h
theorem take_loop (bs : List Nat) (hb : ∀ x ∈ bs, x < 256) (hl : bs.length ≤ 8) :
    loopO (fun (v : Int × (Int × Unit)) => bif (decide (v.2.1 < ((ints bs).length : Int))) then ((getI (ints bs) v.2.1)).bind (fun (w : Int) => some (.inl ((Go.bits Go.BinOp.or Go.IntKind.u64 (IntKind.wrap .u64 (v.1 * (2 ^ 8))) (IntKind.wrap .u64 w)), ((IntKind.wrap .i64 (v.2.1 + 1)), ())))) else (some (v.1, ())).map .inr) (0, (0, ()))
    = some (((vl bs : Nat) : Int), ()) := by
  refine loop_up0 bs.length (fun i => ((vl (bs.take i) : Nat) : Int)) ?_ ?_ (by rfl)
  · intro i hi
    have hx := hb bs[i] (List.getElem_mem hi)
    have hv : vl (bs.take i) < 256 ^ (bs.take i).length := vl_lt fun x hx => hb x (List.mem_of_mem_take hx)
    have hle : (bs.take i).length ≤ 7 := by simp; omega
    have hp : 256 ^ (bs.take i).length ≤ 256 ^ 7 := Nat.pow_le_pow_right (by decide) hle
    have hv' : vl (bs.take i) < 72057594037927936 := Nat.lt_of_lt_of_le hv hp
    have d : decide ((i : Int) < ((ints bs).length : Int)) = true := decide_eq_true (by rw [ints_length]; omega)
    have w1 : IntKind.wrap .u64 (((vl (bs.take i) : Nat) : Int) * (2 ^ 8)) = ((vl (bs.take i) * 256 : Nat) : Int) := by
      have h : ∀ n : Int, IntKind.wrap .u64 n = n % 18446744073709551616 := fun n => by simp [IntKind.wrap, IntKind.bits, IntKind.signed]
      rw [h]; omega
    have w2 : IntKind.wrap .u64 ((bs[i] : Nat) : Int) = ((bs[i] : Nat) : Int) := by
      have h : ∀ n : Int, IntKind.wrap .u64 n = n % 18446744073709551616 := fun n => by simp [IntKind.wrap, IntKind.bits, IntKind.signed]
      rw [h]; omega
    have w3 := wrap_succ (n := i) (by omega)
    have e : vl (bs.take (i + 1)) = vl (bs.take i) * 256 + bs[i] := by
      rw [take_one bs i hi, vl_append]
      simp [vl]
    simp only [d, cond_true, getI_ints hi, Option.bind_some, w1, w2, w3]
    rw [u64_or_nat _ _ (by omega) (by omega), nat_join 8 _ _ (by omega) (by omega), e]
  · have d : decide (((bs.length : Nat) : Int) < ((ints bs).length : Int)) = false := decide_eq_false (by rw [ints_length]; omega)
    simp only [d, cond_false, List.take_length]
    rfl
theorem le4_length (s : Nat) : (le4 s).length = 4 := rfl
theorem le4_get (s i : Nat) (h : i < 4) : (le4 s)[i]'h = s / 256 ^ i % 256 := by
  match i, h with
  | 0, _ => simp [le4]
  | 1, _ => simp [le4]
  | 2, _ => simp [le4]
  | 3, _ => simp [le4]
theorem check_loop (ds : List Nat) (s : Nat) (hd : ds.length = 4) :
    loopO (fun (v : Bool × (Int × Unit)) => bif (decide (v.2.1 < ((ints ds).length : Int))) then ((getI (ints ds) v.2.1)).bind (fun (w : Int) => (bif v.1 then bif (decide (0 ≤ (IntKind.wrap .i64 (8 * v.2.1)))) then some (w == (IntKind.wrap .u8 (Int.fdiv (s : Int) (2 ^ (Min.min (Int.toNat (IntKind.wrap .i64 (8 * v.2.1))) 32))))) else none else some false).bind (fun (x : Bool) => some (.inl (x, ((IntKind.wrap .i64 (v.2.1 + 1)), ()))))) else (some (v.1, ())).map .inr) (true, (0, ()))
    = some (decide (ds = le4 s), ()) := by
  refine loop_up0 4 (fun i => decide (ds.take i = (le4 s).take i)) ?_ ?_ (by rfl)
  · intro i hi
    have hi' : i < ds.length := by omega
    have d : decide ((i : Int) < ((ints ds).length : Int)) = true := decide_eq_true (by rw [ints_length]; omega)
    have e8 : IntKind.wrap .i64 (8 * (i : Int)) = ((8 * i : Nat) : Int) := by rw [wrap_i64_in (by omega) (by omega)]; norm_cast
    have em : Min.min (Int.toNat ((8 * i : Nat) : Int)) 32 = 8 * i := by rw [Int.toNat_natCast]; omega
    have ep : (2 : Nat) ^ (8 * i) = 256 ^ i := by rw [Nat.pow_mul]
    have d2 : decide ((0 : Int) ≤ ((8 * i : Nat) : Int)) = true := decide_eq_true (by omega)
    have w3 := wrap_succ (n := i) (by omega)
    have k : decide (ds.take (i + 1) = (le4 s).take (i + 1)) = (bif decide (ds.take i = (le4 s).take i) then (((ds[i] : Nat) : Int) == ((s / 256 ^ i % 256 : Nat) : Int)) else false) := by
      rw [take_one ds i hi', take_one (le4 s) i hi, le4_get s i hi, Bool.eq_iff_iff]
      have hln : (ds.take i).length = ((le4 s).take i).length := by simp [le4_length]; omega
      by_cases h : ds.take i = (le4 s).take i
      · simp only [h, decide_true, cond_true, decide_eq_true_eq, beq_iff_eq, List.append_cancel_left_eq, List.cons.injEq, and_true]
        omega
      · simp only [h, decide_false, cond_false, decide_eq_true_eq, Bool.false_eq_true, iff_false]
        intro h2
        exact h (List.append_inj_left h2 hln)
    simp only [d, cond_true, getI_ints hi', Option.bind_some, e8, em, d2, fdiv_pow, ep, u8_nat, w3, k]
    cases decide (ds.take i = (le4 s).take i) <;> rfl
  · have d : decide (((4 : Nat) : Int) < ((ints ds).length : Int)) = false := decide_eq_false (by rw [ints_length, hd]; omega)
    have t1 : ds.take 4 = ds := List.take_of_length_le (by omega)
    have t2 : (le4 s).take 4 = le4 s := rfl
    simp only [d, cond_false, t1, t2]
    rfl
end Go.AI
