/- slot: what bytes are read as, on both sides. -/
import Derived.Test.YtbcffodjbbcdhaaXSlotA
import Derived.Test.YtbcffodjbbcdhaaXLoop
namespace Go.AI
open IntKind

def noS : SltQ := (0, (0, ()))
def sltF (bs : List Nat) : SltQ := (IntKind.wrap .i64 ((vl (bs.take 8) : Nat) : Int), (IntKind.wrap .i64 ((vl ((bs.drop 8).take 8) : Nat) : Int), ()))
def decS (bs : List Nat) : SltQ × (Int × Unit) := if bs.length ≠ 20 then (noS, (2, ())) else if bs.drop 16 ≠ le4 (moreN 0 (bs.take 16)) then (noS, (10, ())) else
  if slotB (sltF bs) = true then (sltF bs, (0, ())) else (noS, (2, ()))

theorem or_byte (x y : Nat) (hx : x < 72057594037927936) (hy : y < 256) : Go.bits Go.BinOp.or Go.IntKind.i64 (IntKind.wrap .i64 ((IntKind.wrap .i64 (x : Int)) * (2 ^ 8))) (IntKind.wrap .i64 (y : Int)) = IntKind.wrap .i64 ((x * 256 + y : Nat) : Int) := by
  rw [wrap_i64_in (n := (x : Int)) (by omega) (by omega), wrap_i64_in (n := (y : Int)) (by omega) (by omega)]
  show IntKind.i64.wrap ((BitVec.ofInt 64 (IntKind.wrap .i64 ((x : Int) * (2 ^ 8))) ||| BitVec.ofInt 64 (y : Int)).toNat : Int) = _
  have h1 : (BitVec.ofInt 64 (IntKind.wrap .i64 ((x : Int) * (2 ^ 8)))).toNat = x * 256 := by
    rw [BitVec.toNat_ofInt]
    have := IntKind.wrap_i64 ((x : Int) * (2 ^ 8))
    omega
  rw [BitVec.toNat_or, h1, ofInt_u64 y (by omega), nat_join 8 _ _ (by omega) (by omega)]
theorem vl_take_lt {bs : List Nat} (hb : byt bs) {i : Nat} (h : i ≤ 7) : vl (bs.take i) < 72057594037927936 := by
  have hv : vl (bs.take i) < 256 ^ (bs.take i).length := vl_lt (byt_take i hb)
  have hp : 256 ^ (bs.take i).length ≤ 256 ^ 7 := Nat.pow_le_pow_right (by decide) (by rw [List.length_take]; omega)
  exact Nat.lt_of_lt_of_le hv hp
theorem vl_take8_lt {bs : List Nat} (hb : byt bs) : vl (bs.take 8) < 18446744073709551616 := by
  have hv : vl (bs.take 8) < 256 ^ (bs.take 8).length := vl_lt (byt_take 8 hb)
  have hp : 256 ^ (bs.take 8).length ≤ 256 ^ 8 := Nat.pow_le_pow_right (by decide) (by rw [List.length_take]; omega)
  exact Nat.lt_of_lt_of_le hv hp
theorem vl_take_succ (bs : List Nat) {i : Nat} (h : i < bs.length) : vl (bs.take (i + 1)) = vl (bs.take i) * 256 + bs[i] := by
  rw [take_one bs i h, vl_append]
  simp [vl]
theorem slotN_slt {bs : List Nat} (hb : byt bs) (hl : bs.length = 20) : slotN (sltF bs) = bs.take 16 ++ le4 (moreN 0 (bs.take 16)) := by
  have e : headS (sltF bs) = bs.take 16 := by
    unfold headS sltF
    rw [u64N_wrap _ (vl_take8_lt hb), u64N_wrap _ (vl_take8_lt (byt_drop 8 hb))]
    have h1 := be_vl (byt_take 8 hb)
    have h2 := be_vl (byt_take 8 (byt_drop 8 hb))
    rw [show (bs.take 8).length = 8 by rw [List.length_take]; omega] at h1
    rw [show ((bs.drop 8).take 8).length = 8 by rw [List.length_take, List.length_drop]; omega] at h2
    rw [h1, h2, show (16 : Nat) = 8 + 8 from rfl, List.take_add]
  unfold slotN
  rw [e]
theorem bind_v20 {α : Type} (l : List Int) (h : 20 ≤ l.length) (K : V20 → Option α) : Option.bind (α := V20) (arrB 20 l) K = K (v20 l) := by
  rw [show (arrB 20 l : Option V20) = some (v20 l) from arrB_tup 20 l h]
  rfl
theorem slot_Decode {bs : List Nat} (hb : byt bs) : g_slot_Decode (ints bs, ()) = some (decS bs) := by
  unfold g_slot_Decode decS
  dsimp only
  by_cases hl : bs.length = 20
  rotate_left
  · have b : (((ints bs).length : Int) != 20) = true := by rw [ints_length]; simp; omega
    simp only [b, cond_true]
    rw [if_pos hl]
    rfl
  have b : (((ints bs).length : Int) != 20) = false := by rw [ints_length]; simp; omega
  simp only [b, cond_false]
  rw [if_neg (by omega)]
  rw [loop_st (fun i => ((i : Int), (IntKind.wrap .i64 ((vl (bs.take i) : Nat) : Int), (IntKind.wrap .i64 ((vl ((bs.drop 8).take i) : Nat) : Int), ())))) (n := 8) (out := sltF bs) ?_ ?_ (by rfl)]
  · simp only [Option.bind_some, slot_bytes, slotN_slt hb hl]
    refine (bind_v20 (ints bs) (by rw [ints_length]; omega) _).trans ?_
    have e := eq20_iff (l := bs.take 16 ++ le4 (moreN 0 (bs.take 16))) (m := bs) (by simp [hl, le4_length]) hl
    have e2 : decide (bs.take 16 ++ le4 (moreN 0 (bs.take 16)) = bs) = decide (bs.drop 16 = le4 (moreN 0 (bs.take 16))) := by
      rw [Bool.eq_iff_iff]
      simp only [decide_eq_true_eq]
      conv => lhs; rhs; rw [← List.take_append_drop 16 bs]
      rw [List.append_cancel_left_eq]
      exact eq_comm
    rw [e2] at e
    generalize v20 (ints (bs.take 16 ++ le4 (moreN 0 (bs.take 16)))) = v at e
    generalize v20 (ints bs) = w at e
    unfold eq20 at e
    rw [e]
    by_cases hc : bs.drop 16 = le4 (moreN 0 (bs.take 16))
    · simp only [hc, decide_true, Bool.not_true, cond_false, ne_eq, not_true, if_false, slot_Right, Option.bind_some]
      cases slotB (sltF bs) <;> rfl
    · simp only [hc, decide_false, Bool.not_false, cond_true, ne_eq, not_false_iff, if_true]
      rfl
  · intro i hi
    have d : decide ((i : Int) < 8) = true := decide_eq_true (by omega)
    have w : IntKind.wrap .i64 (8 + (i : Int)) = ((8 + i : Nat) : Int) := by rw [wrap_i64_in (by omega) (by omega)]; omega
    have hi' : i < (bs.drop 8).length := by rw [List.length_drop]; omega
    have e8 : (bs.drop 8)[i]'hi' = bs[8 + i]'(by omega) := by rw [List.getElem_drop]
    simp only [d, cond_true, w, getI_ints (ns := bs) (i := i) (by omega), getI_ints (ns := bs) (i := 8 + i) (by omega), Option.bind_some]
    rw [or_byte _ _ (vl_take_lt hb (by omega)) (hb _ (List.getElem_mem (by omega))), or_byte _ _ (vl_take_lt (byt_drop 8 hb) (by omega)) (hb _ (List.getElem_mem (by omega))), vl_take_succ bs (by omega), vl_take_succ (bs.drop 8) hi', e8, wrap_succ (n := i) (by omega)]
  · rfl

/-! ### The reference -/
def leD : Nat → Nat → List Nat
  | 0, _ => []
  | k + 1, b => b % 256 :: leD k (b / 256)
theorem leD4 (s : Nat) : leD 4 s = le4 s := by
  simp [leD, le4, Nat.div_div_eq_div_mul]
def chkF {ρ : Type} (yes : ρ) (no : ρ) : List Nat → Nat → ρ
  | [], _ => yes
  | d :: l, b => if d = b % 256 then chkF yes no l (b / 256) else no
theorem chkF_eq {ρ : Type} (yes no : ρ) : ∀ (l : List Nat) (b : Nat), chkF yes no l b = if l = leD l.length b then yes else no
  | [], b => rfl
  | d :: l, b => by
    simp only [chkF, List.length_cons, leD, List.cons.injEq, chkF_eq yes no l]
    by_cases h : d = b % 256
    · simp [h]
    · simp [h]
theorem ref14_Decode {bs : List Nat} (hb : byt bs) : g_ref14_Decode (ints bs, ()) = some (decS bs) := by
  unfold g_ref14_Decode decS
  dsimp only
  by_cases hl : bs.length = 20
  rotate_left
  · have b : (((ints bs).length : Int) != 20) = true := by rw [ints_length]; simp; omega
    simp only [b, cond_true]
    rw [if_pos hl]
    rfl
  have b : (((ints bs).length : Int) != 20) = false := by rw [ints_length]; simp; omega
  simp only [b, cond_false]
  rw [if_neg (by omega)]
  have hsub : subI (ints bs) 0 16 = some (ints (bs.take 16)) := sub_take bs 16 (by omega)
  rw [hsub]
  simp only [Option.bind_some]
  have hls : moreN 0 (bs.take 16) < 4294967296 := more_lt (by omega) (byt_take 16 hb)
  rw [ref_Sum (ns := bs.take 16) (byt_take 16 hb) (by rw [List.length_take]; omega)]
  simp only [Option.bind_some]
  generalize hs : moreN 0 (bs.take 16) = s at hls
  have ux : ∀ y : Nat, y < 4294967296 → IntKind.wrap .u32 (Int.tdiv (y : Int) 256) = ((y / 256 : Nat) : Int) := by
    intro y hy
    rw [show Int.tdiv (y : Int) 256 = ((y / 256 : Nat) : Int) from tdiv_nat y 256, wrap_u32_nat _ (by omega)]
  have tm : ∀ x : Nat, IntKind.wrap .u8 (Int.tmod (x : Int) 256) = ((x % 256 : Nat) : Int) := by
    intro x
    rw [show Int.tmod (x : Int) 256 = ((x % 256 : Nat) : Int) from tmod_nat x 256, u8_nat, Nat.mod_mod]
  have hdl : (bs.drop 16).length = 4 := by rw [List.length_drop]; omega
  rw [loop_over0 (bs.drop 16) (fun i (b : Nat) => ((b : Int), ((i : Int), ((0 : Int), ((0 : Int), ()))))) (chkF (.inl ((0 : Int), ((0 : Int), ()))) (.inr (((0 : Int), ((0 : Int), ())), ((10 : Int), ())))) (fun _ b => b < 4294967296) (b := s) ?_ ?_ hls (by rfl)]
  · simp only [Option.bind_some]
    rw [chkF_eq, hdl, leD4]
    by_cases hc : bs.drop 16 = le4 s
    · rw [if_pos hc, if_neg (by simpa using hc)]
      simp only [eX]
      rw [loop_st (fun i => (((vl (bs.take i) : Nat) : Int), (((vl ((bs.drop 8).take i) : Nat) : Int), ((i : Int), ())))) (n := 8) (out := (((vl (bs.take 8) : Nat) : Int), (((vl ((bs.drop 8).take 8) : Nat) : Int), ()))) ?_ ?_ (by rfl)]
      · simp only [Option.bind_some, ref14_Right]
        show (bif (!slotB (sltF bs)) then some (noS, (2, ())) else some (sltF bs, (0, ()))) = _
        cases slotB (sltF bs) <;> rfl
      · intro i hi
        have d : decide ((i : Int) < 8) = true := decide_eq_true (by omega)
        have w : IntKind.wrap .i64 (8 + (i : Int)) = ((8 + i : Nat) : Int) := by rw [wrap_i64_in (by omega) (by omega)]; omega
        have hi' : i < (bs.drop 8).length := by rw [List.length_drop]; omega
        have e8 : (bs.drop 8)[i]'hi' = bs[8 + i]'(by omega) := by rw [List.getElem_drop]
        have u : ∀ (x y : Nat), x < 72057594037927936 → y < 256 → IntKind.wrap .u64 ((IntKind.wrap .u64 ((x : Int) * 256)) + (IntKind.wrap .u64 (y : Int))) = ((x * 256 + y : Nat) : Int) := by
          intro x y hx hy
          have h : ∀ n : Int, IntKind.wrap .u64 n = n % 18446744073709551616 := fun n => by simp [IntKind.wrap, IntKind.bits, IntKind.signed]
          rw [h, h, h]; omega
        simp only [d, cond_true, w, getI_ints (ns := bs) (i := i) (by omega), getI_ints (ns := bs) (i := 8 + i) (by omega), Option.bind_some]
        rw [u _ _ (vl_take_lt hb (by omega)) (hb _ (List.getElem_mem (by omega))), u _ _ (vl_take_lt (byt_drop 8 hb) (by omega)) (hb _ (List.getElem_mem (by omega))), vl_take_succ bs (by omega), vl_take_succ (bs.drop 8) hi', e8, wrap_succ (n := i) (by omega)]
      · rfl
    · rw [if_neg hc, if_pos (by simpa using hc)]
      rfl
  · intro b _
    rw [hdl]
    rfl
  · intro i b hi hb'
    rw [hdl] at hi
    have d : decide ((i : Int) < 4) = true := decide_eq_true (by omega)
    have w : IntKind.wrap .i64 (16 + (i : Int)) = ((16 + i : Nat) : Int) := by rw [wrap_i64_in (by omega) (by omega)]; omega
    simp only [d, cond_true, w, getI_ints (ns := bs) (i := 16 + i) (by omega), Option.bind_some, tm]
    rw [drop_at (l := bs.drop 16) (i := i) (by omega)]
    have e : (bs.drop 16)[i]'(by omega) = bs[16 + i]'(by omega) := by rw [List.getElem_drop]
    rw [e]
    generalize bs[16 + i]'(by omega) = x
    by_cases hx : x = b % 256
    · left
      have bx : ((x : Int) != ((b % 256 : Nat) : Int)) = false := by simp; omega
      refine ⟨b / 256, ?_, by omega, ?_⟩
      · rw [bx, cond_false, ux _ hb', wrap_succ (n := i) (by omega)]
      · simp only [chkF]
        rw [if_pos hx]
    · right
      have bx : ((x : Int) != ((b % 256 : Nat) : Int)) = true := by simp; omega
      rw [bx, cond_true]
      simp only [chkF]
      rw [if_neg hx]
      rfl

/-! ### What is coded is read -/
theorem decS_slot {s : SltQ} (h : slotB s = true) : decS (slotN s) = (s, (0, ())) := by
  obtain ⟨h1, h2, h3, h4⟩ := (slotB_iff s).1 h
  have hl := slotN_len s
  have e16 : (slotN s).take 16 = headS s := by unfold slotN; rw [List.take_append_of_le_length (by rw [headS_len]; omega), List.take_of_length_le (by rw [headS_len]; omega)]
  have d16 : (slotN s).drop 16 = le4 (moreN 0 (headS s)) := by
    unfold slotN
    rw [List.drop_append_of_le_length (by rw [headS_len]; omega), List.drop_of_length_le (by rw [headS_len]; omega), List.nil_append]
  have e8 : (slotN s).take 8 = be 8 (u64N s.1) := by
    unfold slotN headS
    rw [List.append_assoc, List.take_append_of_le_length (by rw [be_length]; omega), List.take_of_length_le (by rw [be_length]; omega)]
  have d8 : ((slotN s).drop 8).take 8 = be 8 (u64N s.2.1) := by
    unfold slotN headS
    rw [List.append_assoc, List.drop_append_of_le_length (by rw [be_length]; omega), List.drop_of_length_le (by rw [be_length]; omega), List.nil_append, List.take_append_of_le_length (by rw [be_length]; omega), List.take_of_length_le (by rw [be_length]; omega)]
  have es : sltF (slotN s) = s := by
    unfold sltF
    rw [e8, d8, vl_be, vl_be]
    have a1 := u64N_lt s.1
    have a2 := u64N_lt s.2.1
    have c1 := u64N_cast s.1
    have c2 := u64N_cast s.2.1
    rw [Nat.mod_eq_of_lt (by simpa using a1), Nat.mod_eq_of_lt (by simpa using a2), wrap_i64_in (by omega) (by omega), wrap_i64_in (by omega) (by omega)]
    obtain ⟨x, y, u⟩ := s
    simp only [Prod.mk.injEq, and_true] at *
    omega
  unfold decS
  rw [if_neg (by omega), e16, d16, if_neg (by simp), es, if_pos h]
theorem decS_ok {bs : List Nat} (h : (decS bs).2.1 = 0) : slotB (decS bs).1 = true := by
  unfold decS at h ⊢
  split
  · rename_i hc; rw [if_pos hc] at h; cases h
  · rename_i hc
    rw [if_neg hc] at h
    split
    · rename_i hd; rw [if_pos hd] at h; cases h
    · rename_i hd
      rw [if_neg hd] at h
      split
      · assumption
      · rename_i hs; rw [if_neg hs] at h; cases h
theorem decS_short {bs : List Nat} (h : bs.length ≠ 20) : decS bs = (noS, (2, ())) := by
  unfold decS
  rw [if_pos h]
end Go.AI
