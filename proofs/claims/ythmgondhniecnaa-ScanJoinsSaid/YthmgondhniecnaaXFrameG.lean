/- frame: a frame is read from its bytes as it was; bytes that are read are those of what is read. -/
import Derived.Test.YthmgondhniecnaaXFrameF
namespace Go.AI
theorem u64_eq (n : Int) : IntKind.wrap .u64 n = n % 18446744073709551616 := by simp [IntKind.wrap, IntKind.bits, IntKind.signed]
theorem back_i64 {x : Int} {n : Nat} (hx : -9223372036854775808 ≤ x ∧ x < 9223372036854775808) (h : IntKind.wrap .u64 x = (n : Int)) : IntKind.wrap .i64 ((n % 18446744073709551616 : Nat) : Int) = x := by
  rw [u64_eq] at h
  rw [IntKind.wrap_i64]
  omega
theorem back_i32 {x : Int} {n : Nat} (hx : 0 ≤ x ∧ x < 4294967296) (h : IntKind.wrap .u64 x = (n : Int)) : IntKind.wrap .i64 ((n % 4294967296 : Nat) : Int) = x := by
  rw [u64_eq] at h
  rw [IntKind.wrap_i64]
  omega
def FrmIn (f : FrmR) : Prop := (-9223372036854775808 ≤ f.1 ∧ f.1 < 9223372036854775808) ∧ (-9223372036854775808 ≤ f.2.1 ∧ f.2.1 < 9223372036854775808) ∧ (-9223372036854775808 ≤ f.2.2.1 ∧ f.2.2.1 < 9223372036854775808) ∧
  (-9223372036854775808 ≤ f.2.2.2.1.1 ∧ f.2.2.2.1.1 < 9223372036854775808) ∧ (-9223372036854775808 ≤ f.2.2.2.1.2.1 ∧ f.2.2.2.1.2.1 < 9223372036854775808) ∧ (-9223372036854775808 ≤ f.2.2.2.1.2.2.1 ∧ f.2.2.2.1.2.2.1 < 9223372036854775808) ∧ (-9223372036854775808 ≤ f.2.2.2.1.2.2.2.1 ∧ f.2.2.2.1.2.2.2.1 < 9223372036854775808) ∧ (-9223372036854775808 ≤ f.2.2.2.1.2.2.2.2.1 ∧ f.2.2.2.1.2.2.2.2.1 < 9223372036854775808) ∧ (-9223372036854775808 ≤ f.2.2.2.1.2.2.2.2.2.1 ∧ f.2.2.2.1.2.2.2.2.2.1 < 9223372036854775808)
/-- The code of a frame. -/
def nU (x : Int) : Nat := (IntKind.wrap .u64 x).toNat
theorem nU_eq (x : Int) : IntKind.wrap .u64 x = (nU x : Int) := by
  unfold nU
  obtain ⟨n, h, _⟩ := u64_nat x
  rw [h]; rfl
def codeF (f : FrmR) : List Nat := codeN (nU f.1) (nU f.2.1) (nU f.2.2.1) (nU f.2.2.2.1.1) (nU f.2.2.2.1.2.1) (nU f.2.2.2.1.2.2.1) (nU f.2.2.2.1.2.2.2.1) (nU f.2.2.2.1.2.2.2.2.1) (nU f.2.2.2.1.2.2.2.2.2.1)
def encF (f : FrmR) : List Int × (Int × Unit) := if frmB f = true then (ints (codeF f), (0, ())) else ([], (1, ()))
theorem frame_Enc (f : FrmR) : g_frame_Encode (f, ()) = some (encF f) := frame_Encode f (nU_eq _) (nU_eq _) (nU_eq _) (nU_eq _) (nU_eq _) (nU_eq _) (nU_eq _) (nU_eq _) (nU_eq _)
theorem codeF_length (f : FrmR) : (codeF f).length = 72 := codeN_length ..
theorem codeN_byt (e l k b1 b2 b3 b4 b5 b6 : Nat) : byt (codeN e l k b1 b2 b3 b4 b5 b6) := by
  intro x hx
  unfold codeN at hx
  rcases List.mem_append.1 hx with h | h
  · exact textN_lt _ _ _ _ _ _ _ _ _ x h
  · simp only [le4, List.mem_cons, List.not_mem_nil, or_false] at h
    omega
theorem codeF_byt (f : FrmR) : byt (codeF f) := codeN_byt _ _ _ _ _ _ _ _ _
theorem codeN_take (e l k b1 b2 b3 b4 b5 b6 : Nat) : (codeN e l k b1 b2 b3 b4 b5 b6).take 68 = textN e l k b1 b2 b3 b4 b5 b6 := List.take_left' (textN_length ..)
theorem codeN_drop (e l k b1 b2 b3 b4 b5 b6 : Nat) : (codeN e l k b1 b2 b3 b4 b5 b6).drop 68 = le4 (moreN 0 (textN e l k b1 b2 b3 b4 b5 b6)) := List.drop_left' (textN_length ..)
theorem numB_of {t : List Nat} {i k n : Nat} (h : (t.drop i).take k = be k n) : numB t i k = IntKind.wrap .i64 ((n % 256 ^ k : Nat) : Int) := by
  unfold numB
  rw [h, vl_be]
/-- **A frame is read from its bytes as it was.** -/
theorem dec_code (f : FrmR) (hr : frmB f = true) (hi : FrmIn f) : decF (codeF f) = (f, (0, ())) := by
  obtain ⟨_, _, _, i4, i5, i6, i7, i8, i9⟩ := hi
  have hr' := hr
  unfold frmB at hr'
  simp only [Bool.and_eq_true, decide_eq_true_eq] at hr'
  have hf : frmF (textN (nU f.1) (nU f.2.1) (nU f.2.2.1) (nU f.2.2.2.1.1) (nU f.2.2.2.1.2.1) (nU f.2.2.2.1.2.2.1) (nU f.2.2.2.1.2.2.2.1) (nU f.2.2.2.1.2.2.2.2.1) (nU f.2.2.2.1.2.2.2.2.2.1)) = f := by
    unfold frmF
    rw [numB_of (n := nU f.1) rfl, numB_of (n := nU f.2.1) rfl, numB_of (n := nU f.2.2.1) rfl, numB_of (n := nU f.2.2.2.1.1) rfl, numB_of (n := nU f.2.2.2.1.2.1) rfl, numB_of (n := nU f.2.2.2.1.2.2.1) rfl, numB_of (n := nU f.2.2.2.1.2.2.2.1) rfl, numB_of (n := nU f.2.2.2.1.2.2.2.2.1) rfl, numB_of (n := nU f.2.2.2.1.2.2.2.2.2.1) rfl]
    simp only [Nat.reducePow]
    rw [back_i32 (by omega) (nU_eq f.1), back_i64 (by omega) (nU_eq f.2.1), back_i32 (by omega) (nU_eq f.2.2.1), back_i64 i4 (nU_eq _), back_i64 i5 (nU_eq _), back_i64 i6 (nU_eq _), back_i64 i7 (nU_eq _), back_i64 i8 (nU_eq _), back_i64 i9 (nU_eq _)]
  have hv : vl ((codeF f).take 4) = 72 := by
    show vl (be 4 72) = 72
    rw [vl_be]
  have h1 : (codeF f).take 68 = textN (nU f.1) (nU f.2.1) (nU f.2.2.1) (nU f.2.2.2.1.1) (nU f.2.2.2.1.2.1) (nU f.2.2.2.1.2.2.1) (nU f.2.2.2.1.2.2.2.1) (nU f.2.2.2.1.2.2.2.2.1) (nU f.2.2.2.1.2.2.2.2.2.1) := codeN_take ..
  have h2 : (codeF f).drop 68 = le4 (moreN 0 ((codeF f).take 68)) := by rw [h1]; exact codeN_drop ..
  unfold decF
  rw [if_neg (by simp [codeF_length]), if_neg (by simp [hv]), if_neg (by simp [← h2]), h1, hf, if_pos hr]
theorem be_slice {t : List Nat} (hb : byt t) {i k : Nat} (h : i + k ≤ t.length) : be k (vl ((t.drop i).take k)) = (t.drop i).take k := by
  have hl : ((t.drop i).take k).length = k := by simp; omega
  have := be_vl (l := (t.drop i).take k) (byt_take k (byt_drop i hb))
  rwa [hl] at this
theorem nU_numB {t : List Nat} (hb : byt t) (i k : Nat) (hk : k ≤ 8) : nU (numB t i k) = vl ((t.drop i).take k) := by
  have hlt : vl ((t.drop i).take k) < 256 ^ ((t.drop i).take k).length := vl_lt (byt_take k (byt_drop i hb))
  have hp : 256 ^ ((t.drop i).take k).length ≤ 256 ^ 8 := Nat.pow_le_pow_right (by decide) (by rw [List.length_take]; omega)
  unfold nU numB
  rw [u64_eq, IntKind.wrap_i64]
  omega
theorem numB_in (t : List Nat) (i k : Nat) : -9223372036854775808 ≤ numB t i k ∧ numB t i k < 9223372036854775808 := by
  unfold numB
  rw [IntKind.wrap_i64]
  omega
theorem frmF_in (t : List Nat) : FrmIn (frmF t) := ⟨numB_in .., numB_in .., numB_in .., numB_in .., numB_in .., numB_in .., numB_in .., numB_in .., numB_in ..⟩
/-- **Bytes that are read are those of what is read.** -/
theorem code_dec {bs : List Nat} (hb : byt bs) {g : FrmR} (h : decF bs = (g, (0, ()))) : frmB g = true ∧ codeF g = bs ∧ FrmIn g ∧ bs.length = 72 := by
  unfold decF at h
  split at h
  · simp at h
  · rename_i hl
    rw [Ne, Classical.not_not] at hl
    split at h
    · simp at h
    · rename_i hv
      rw [Ne, Classical.not_not] at hv
      split at h
      · simp at h
      · rename_i hs
        rw [Ne, Classical.not_not] at hs
        split at h
        · rename_i hr
          simp only [Prod.mk.injEq, and_true] at h
          subst h
          refine ⟨hr, ?_, frmF_in _, hl⟩
          have ht : (bs.take 68).length = 68 := by simp [hl]
          have hbt := byt_take 68 hb
          have h4 : (bs.take 68).take 4 = bs.take 4 := by rw [List.take_take]; rfl
          have e0 : be 4 72 = (bs.take 68).take 4 := by
            have := be_slice hbt (i := 0) (k := 4) (by omega)
            rw [List.drop_zero, h4, hv] at this
            rw [this, h4]
          generalize hT : bs.take 68 = t at *
          have cat : ∀ i k, t.take i ++ (t.drop i).take k = t.take (i + k) := fun i k => (List.take_add ..).symm
          have e : textN (nU (frmF t).1) (nU (frmF t).2.1) (nU (frmF t).2.2.1) (nU (frmF t).2.2.2.1.1) (nU (frmF t).2.2.2.1.2.1) (nU (frmF t).2.2.2.1.2.2.1) (nU (frmF t).2.2.2.1.2.2.2.1) (nU (frmF t).2.2.2.1.2.2.2.2.1) (nU (frmF t).2.2.2.1.2.2.2.2.2.1) = t := by
            unfold frmF textN
            simp only [nU_numB hbt _ 4 (by decide), nU_numB hbt _ 8 (by decide), be_slice hbt (show 4 + 4 ≤ t.length by omega), be_slice hbt (show 8 + 8 ≤ t.length by omega), be_slice hbt (show 16 + 4 ≤ t.length by omega), be_slice hbt (show 20 + 8 ≤ t.length by omega), be_slice hbt (show 28 + 8 ≤ t.length by omega), be_slice hbt (show 36 + 8 ≤ t.length by omega), be_slice hbt (show 44 + 8 ≤ t.length by omega), be_slice hbt (show 52 + 8 ≤ t.length by omega), be_slice hbt (show 60 + 8 ≤ t.length by omega)]
            rw [e0, List.nil_append, cat, cat, cat, cat, cat, cat, cat, cat, cat]
            exact List.take_of_length_le (by omega)
          unfold codeF codeN
          rw [e, ← hs, ← hT, List.take_append_drop]
        · simp at h
theorem dec_err {bs : List Nat} (h : (decF bs).2.1 ≠ 0) : (decF bs).1 = noF := by
  unfold decF at h ⊢
  split
  · rfl
  · split
    · rfl
    · split
      · rfl
      · rename_i h1 h2 h3
        rw [if_neg h1, if_neg h2, if_neg h3] at h
        split
        · rename_i h4
          rw [if_pos h4] at h
          exact absurd rfl h
        · rfl
theorem code_inj {f g : FrmR} (hf : frmB f = true) (hg : frmB g = true) (fi : FrmIn f) (gi : FrmIn g) (h : codeF f = codeF g) : f = g := by
  have h1 := dec_code f hf fi
  rw [h, dec_code g hg gi] at h1
  exact (congrArg Prod.fst h1).symm
end Go.AI
