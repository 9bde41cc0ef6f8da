/- frame: what the decoder answers. -/
import Derived.Test.YthmgondhniecnaaXFrameC
namespace Go.AI
def byt (l : List Nat) : Prop := ∀ x ∈ l, x < 256
theorem byt_take {l : List Nat} (k : Nat) (h : byt l) : byt (l.take k) := fun x hx => h x (List.mem_of_mem_take hx)
theorem byt_drop {l : List Nat} (k : Nat) (h : byt l) : byt (l.drop k) := fun x hx => h x (List.mem_of_mem_drop hx)
theorem sub_take (l : List Nat) (k : Nat) (h : k ≤ l.length) : subI (ints l) 0 (k : Int) = some (ints (l.take k)) := by
  have := subI_nat (ints l) (a := 0) (b := k) (by omega) (by rw [ints_length]; exact h)
  rw [show ((0 : Nat) : Int) = 0 from rfl] at this
  rw [this, List.drop_zero, ints_take]
theorem sub_drop (l : List Nat) (k : Nat) (h : k ≤ l.length) : subI (ints l) (k : Int) ((ints l).length : Int) = some (ints (l.drop k)) := by
  have := subI_nat (ints l) (a := k) (b := (ints l).length) (by rw [ints_length]; exact h) (Nat.le_refl _)
  rw [this, List.take_length, ints_drop]
theorem sub_take4 (l : List Nat) (h : 4 ≤ l.length) : subI (ints l) 0 4 = some (ints (l.take 4)) := sub_take l 4 h
theorem sub_take8 (l : List Nat) (h : 8 ≤ l.length) : subI (ints l) 0 8 = some (ints (l.take 8)) := sub_take l 8 h
theorem sub_take68 (l : List Nat) (h : 68 ≤ l.length) : subI (ints l) 0 68 = some (ints (l.take 68)) := sub_take l 68 h
theorem sub_drop4 (l : List Nat) (h : 4 ≤ l.length) : subI (ints l) 4 ((ints l).length : Int) = some (ints (l.drop 4)) := sub_drop l 4 h
theorem sub_drop8 (l : List Nat) (h : 8 ≤ l.length) : subI (ints l) 8 ((ints l).length : Int) = some (ints (l.drop 8)) := sub_drop l 8 h
theorem sub_drop68 (l : List Nat) (h : 68 ≤ l.length) : subI (ints l) 68 ((ints l).length : Int) = some (ints (l.drop 68)) := sub_drop l 68 h
theorem take_byt (l : List Nat) (k : Nat) (hb : byt l) (hk : k ≤ 8) :
    loopO (fun (v : Int × (Int × Unit)) => bif (decide (v.2.1 < ((ints (l.take k)).length : Int))) then ((getI (ints (l.take k)) v.2.1)).bind (fun (w : Int) => some (.inl ((Go.bits Go.BinOp.or Go.IntKind.u64 (IntKind.wrap .u64 (v.1 * (2 ^ 8))) (IntKind.wrap .u64 w)), ((IntKind.wrap .i64 (v.2.1 + 1)), ())))) else (some (v.1, ())).map .inr) (0, (0, ()))
    = some (((vl (l.take k) : Nat) : Int), ()) := take_loop (l.take k) (byt_take k hb) (by rw [List.length_take]; omega)
/-- The number of some bytes of what stands before the sum. -/
def numB (t : List Nat) (i k : Nat) : Int := IntKind.wrap .i64 ((vl ((t.drop i).take k) : Nat) : Int)
def frmF (t : List Nat) : FrmR := (numB t 4 4, (numB t 8 8, (numB t 16 4, ((numB t 20 8, (numB t 28 8, (numB t 36 8, (numB t 44 8, (numB t 52 8, (numB t 60 8, ())))))), ()))))
def noF : FrmR := (0, (0, (0, ((0, (0, (0, (0, (0, (0, ())))))), ()))))
def decF (bs : List Nat) : FrmR × (Int × Unit) :=
  if bs.length ≠ 72 then (noF, (2, ())) else if vl (bs.take 4) ≠ 72 then (noF, (2, ())) else if bs.drop 68 ≠ le4 (moreN 0 (bs.take 68)) then (noF, (10, ())) else
  if frmB (frmF (bs.take 68)) = true then (frmF (bs.take 68), (0, ())) else (noF, (2, ()))
theorem frame_Decode (bs : List Nat) (hb : byt bs) : g_frame_Decode (ints bs, ()) = some (decF bs) := by
  unfold g_frame_Decode decF
  by_cases hl : bs.length = 72
  rotate_left
  · have b : (((ints bs).length : Int) != 72) = true := by rw [ints_length]; simp; omega
    simp only [b, cond_true]
    rw [if_pos hl]
    rfl
  have b : (((ints bs).length : Int) != 72) = false := by rw [ints_length]; simp; omega
  have ht : (bs.take 68).length = 68 := by simp [hl]
  have hd : (bs.drop 68).length = 4 := by simp [hl]
  have bt := byt_take 68 hb
  have hs := crc_Sum (ns := bs.take 68) bt (by omega)
  have h4 : (bs.take 68).take 4 = bs.take 4 := by simp [List.take_take]
  simp only [b, cond_false]
  rw [sub_take68 bs (by omega), sub_drop68 bs (by omega)]
  simp only [Option.bind_some, hs]
  generalize hT : bs.take 68 = t at *
  rw [check_loop _ _ hd]
  simp only [sub_take4, sub_take8, sub_drop4, sub_drop8, take_byt, byt_take, byt_drop, bt, hb, ht, List.length_drop, Nat.reduceLeDiff, Nat.reduceSub, Option.bind_some, List.drop_drop, Nat.reduceAdd, h4]
  by_cases hv : vl (bs.take 4) = 72
  · have bv : (((vl (bs.take 4) : Nat) : Int) != 72) = false := by simp; omega
    by_cases hc : bs.drop 68 = le4 (moreN 0 t)
    · simp only [bv, hv, hc, hl, cond_false, decide_true, Bool.not_true, ne_eq, not_true, if_false, frame_Right]
      cases hf : frmB (frmF t) <;> unfold frmF numB at hf ⊢ <;> simp [hf, noF]
    · simp [bv, hv, hc, hl, noF]
  · have bv : (((vl (bs.take 4) : Nat) : Int) != 72) = true := by simp; omega
    simp [bv, hv, hl, noF]
end Go.AI
