/- frame: what the coder answers. -/
import Derived.Test.YthmgondhniecnaaXFrameA
namespace Go.AI
def frmB (f : FrmR) : Bool := ((((((decide (f.1 ≥ 1)) && (decide (f.1 ≤ 1000000))) && (decide (f.2.1 ≥ 1))) && (decide (f.2.1 ≤ 1000000000))) && (decide (f.2.2.1 ≥ 1))) && (decide (f.2.2.1 ≤ 6)))
theorem frame_Right (a : FrmR × Unit) : g_frame_Right a = some (frmB a.1) := rfl
theorem ref04_Right (a : FrmR × Unit) : g_ref04_Right a = some (frmB a.1) := by
  unfold g_ref04_Right frmB
  congr 1
  rw [Bool.eq_iff_iff]
  simp only [Bool.and_eq_true, decide_eq_true_eq]
  omega
theorem frame_Encode (f : FrmR) {e l k b1 b2 b3 b4 b5 b6 : Nat} (h1 : IntKind.wrap .u64 f.1 = (e : Int)) (h2 : IntKind.wrap .u64 f.2.1 = (l : Int)) (h3 : IntKind.wrap .u64 f.2.2.1 = (k : Int)) (h4 : IntKind.wrap .u64 f.2.2.2.1.1 = (b1 : Int)) (h5 : IntKind.wrap .u64 f.2.2.2.1.2.1 = (b2 : Int)) (h6 : IntKind.wrap .u64 f.2.2.2.1.2.2.1 = (b3 : Int)) (h7 : IntKind.wrap .u64 f.2.2.2.1.2.2.2.1 = (b4 : Int)) (h8 : IntKind.wrap .u64 f.2.2.2.1.2.2.2.2.1 = (b5 : Int)) (h9 : IntKind.wrap .u64 f.2.2.2.1.2.2.2.2.2.1 = (b6 : Int)) :
    g_frame_Encode (f, ()) = some (if frmB f = true then (ints (codeN e l k b1 b2 b3 b4 b5 b6), (0, ())) else ([], (1, ()))) := by
  have ht := textN_lt e l k b1 b2 b3 b4 b5 b6
  have hl := textN_length e l k b1 b2 b3 b4 b5 b6
  have hs := crc_Sum (ns := textN e l k b1 b2 b3 b4 b5 b6) ht (by omega)
  have w4 : IntKind.wrap .i64 (4 - 1) = ((4 : Nat) : Int) - 1 := rfl
  have w8 : IntKind.wrap .i64 (8 - 1) = ((8 : Nat) : Int) - 1 := rfl
  have p0 := put_loop 72 4 [] (by decide) (by decide)
  have c72 : ((72 : Nat) : Int) = 72 := rfl
  rw [c72, show ints [] = [] from rfl] at p0
  unfold g_frame_Encode
  rw [frame_Right]
  cases hr : frmB f
  · rfl
  · simp only [Option.bind_some, Bool.not_true, cond_false, if_true, w4, w8, h1, h2, h3, h4, h5, h6, h7, h8, h9, p0]
    unfold textN at hs
    simp only [put_loop, be_length, List.length_append, List.length_nil, Nat.reduceAdd, Nat.reduceLeDiff, Option.bind_some, hs, sum_ints, app_ints, le4, List.length_cons]
    rfl
end Go.AI
