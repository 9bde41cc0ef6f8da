/- disk: what is done, as the program does it. -/
import Derived.Test.YtbcffodjbbcdhaaXDiskB
namespace Go.AI
open IntKind

/-! ### What is done -/
def errD (d : DiskQ) (ns : List ByteArray) : Int := bif !(rightB d) then 1 else bif d.2.2.2.1 then 9 else bif !(ns.all nameB) then 1 else 0
def downD (d : DiskQ) : DiskQ := (d.1, (d.2.1, (d.2.2.1, (true, ()))))
def burnD (d : DiskQ) : DiskQ := (d.1, (d.2.1, ((if d.2.2.1 = -1 then -1 else d.2.2.1 - 1), d.2.2.2)))
/-- Once an operation may be done: the disk with the power gone; or the new one. -/
def goD (a b : DiskQ) : DiskQ × (Int × Unit) := if a.2.2.1 = 0 then (downD a, (9, ())) else (burnD b, (0, ()))
def fileOf (l : List FileQ) (n : ByteArray) : FileQ := (getF l n).getD (n, ([], (0, ())))
def appD (d : DiskQ) (n : ByteArray) (b : List Int) : DiskQ × (Int × Unit) :=
  if errD d [n] ≠ 0 then (d, (errD d [n], ()))
  else if d.2.1 < usedF d.1 + b.length ∨ (getF d.1 n = none ∧ d.1.length = 64) then (d, (6, ()))
  else goD (putF d.1 (n, ((fileOf d.1 n).2.1 ++ b, (fileOf d.1 n).2.2)), d.2) (putF d.1 (n, ((fileOf d.1 n).2.1 ++ b, (fileOf d.1 n).2.2)), d.2)
/-- On a file that must be there. -/
def onD (d : DiskQ) (ns : List ByteArray) (n : ByteArray) (k : FileQ → DiskQ × (Int × Unit)) : DiskQ × (Int × Unit) :=
  if errD d ns ≠ 0 then (d, (errD d ns, ())) else match getF d.1 n with
  | none => (d, (7, ()))
  | some f => k f
def syncD (d : DiskQ) (n : ByteArray) : DiskQ × (Int × Unit) := onD d [n] n fun f => goD d (putF d.1 (f.1, (f.2.1, ((f.2.1.length : Int), ()))), d.2)
def renD (d : DiskQ) (a b : ByteArray) : DiskQ × (Int × Unit) := onD d [b, a] a fun f => goD d (putF (delF d.1 a) (b, f.2), d.2)
def remD (d : DiskQ) (n : ByteArray) : DiskQ × (Int × Unit) := onD d [n] n fun _ => goD d (delF d.1 n, d.2)
def cutF (f : FileQ) (k : Int) : FileQ := (f.1, (f.2.1.take k.toNat, ((if k < f.2.2.1 then k else f.2.2.1), ())))
def cutD (d : DiskQ) (n : ByteArray) (k : Int) : DiskQ × (Int × Unit) := onD d [n] n fun f => if k < 0 ∨ (f.2.1.length : Int) < k then (d, (1, ())) else goD d (putF d.1 (cutF f k), d.2)
def readD (d : DiskQ) (n : ByteArray) : List Int × (Int × Unit) := if errD d [n] ≠ 0 then ([], (errD d [n], ())) else match getF d.1 n with
  | none => ([], (7, ()))
  | some f => (f.2.1, (0, ()))
def keepI (f : FileQ) (k : Int) : Int := f.2.2.1 + min (max k 0) (f.2.1.length - f.2.2.1)
def leftF (f : FileQ) (k : Int) : FileQ := (f.1, (f.2.1.take (keepI f k).toNat, (keepI f k, ())))
def keepAt (keep : List Int) (i : Nat) : Int := if h : keep.length = 0 then 0 else keep[i % keep.length]'(Nat.mod_lt _ (by omega))
def backL (keep : List Int) : Nat → List FileQ → List FileQ
  | _, [] => []
  | i, f :: l => leftF f (keepAt keep i) :: backL keep (i + 1) l
def backD (d : DiskQ) (keep : List Int) (fuse : Int) : DiskQ × (Int × Unit) :=
  if rightB d = false ∨ fuse < -1 then (d, (1, ())) else ((backL keep 0 d.1, (d.2.1, (fuse, (false, ())))), (0, ()))

/-- Disks that are no larger than slices are. -/
structure DkOk (d : DiskQ) : Prop where
  names : NamesOk d.1
  len : d.1.length ≤ maxLen
theorem errD_right {d : DiskQ} {ns : List ByteArray} (h : errD d ns = 0) : RightD d := by
  unfold errD at h
  cases hr : rightB d with
  | true => exact (rightB_iff d).1 hr
  | false => rw [hr] at h; simp at h
theorem errD_zero {d : DiskQ} {ns : List ByteArray} (h : errD d ns = 0) : RightD d ∧ d.2.2.2.1 = false ∧ ∀ n ∈ ns, nameB n = true := by
  refine ⟨errD_right h, ?_⟩
  unfold errD at h
  rw [(rightB_iff d).2 (errD_right h)] at h
  cases hd : d.2.2.2.1 with
  | true => rw [hd] at h; simp at h
  | false =>
    rw [hd] at h
    cases ha : ns.all nameB with
    | false => rw [ha] at h; simp at h
    | true => exact ⟨rfl, List.all_eq_true.1 ha⟩
theorem errD_ok {d : DiskQ} (h : RightD d) (h1 : d.2.2.2.1 = false) {ns : List ByteArray} (h2 : ∀ n ∈ ns, nameB n = true) : errD d ns = 0 := by
  unfold errD
  rw [(rightB_iff d).2 h, h1, List.all_eq_true.2 h2]
  rfl

theorem clone_ok (l : List Int) (h : l.length ≤ 100000000000) : g_clone59 (l, ()) = some l := by
  unfold g_clone59
  rw [appX_ok (by simp; omega) (by simp [maxLen]; omega)]
  rfl

def readyF : List ByteArray → Unit → Unit ⊕ Int
  | [], _ => .inl ()
  | n :: l, u => if nameB n = true then readyF l u else .inr 1
theorem readyF_end : ∀ l : List ByteArray, eX (fun _ => some 0) (readyF l ()) = some (bif !(l.all nameB) then 1 else 0)
  | [] => rfl
  | n :: l => by
    unfold readyF
    cases h : nameB n with
    | true => simp only [if_true, readyF_end l, List.all_cons, h, Bool.true_and]
    | false => simp [eX, List.all_cons, h]
theorem disk_ready (d : DiskQ) (ns : List ByteArray) (hd : NamesOk d.1) (hn : ∀ n ∈ ns, n.size ≤ maxLen) (hl : ns.length ≤ 1000) : g_disk_ready (d, (ns, ())) = some (errD d ns) := by
  unfold g_disk_ready errD
  rw [disk_Right d hd, Option.bind_some]
  cases rightB d with
  | false => rfl
  | true =>
    simp only [Bool.not_true, cond_false]
    cases d.2.2.2.1 with
    | true => rfl
    | false =>
      simp only [cond_false]
      rw [loop_over0 ns (fun i (b : Unit) => ((i : Int), ())) readyF (fun _ _ => True) (b := ()) ?_ ?_ trivial (by rfl)]
      · rw [Option.bind_some, readyF_end]
      · intro b _
        simp only [ltI', cond_false]
        rfl
      · intro i b hi _
        simp only [ltI hi, cond_true, getI_at hi, Option.bind_some]
        rw [disk_named _ (hn _ (List.getElem_mem hi)), drop_at hi]
        generalize ns[i] = n
        cases h : nameB n with
        | true =>
          left
          refine ⟨(), ?_, trivial, ?_⟩
          · simp only [Option.bind_some, Bool.not_true, cond_false]
            rw [wrap_succ (n := i) (by omega)]
          · conv => lhs; unfold readyF
            rw [if_pos h]
        | false =>
          right
          simp only [Option.bind_some, Bool.not_false, cond_true]
          rw [decide_eq_true (show (i : Int) ≥ 0 by omega)]
          unfold readyF
          rw [h]
          rfl

theorem concat_ok (x y : List Int) (h : x.length + y.length ≤ 1000000000) : g_slices_Concat ((x :: (y :: [])), ()) = some (x ++ y) := by
  unfold g_slices_Concat
  have s1 : ∀ (a b : Int), 0 ≤ a → 0 ≤ b → a + b ≤ 1000000000 → (bif (decide ((IntKind.wrap .i64 (a + b)) < 0)) then (none : Option Unit) else some ()) = some () := by
    intro a b h1 h2 h3
    rw [wrap_i64_in (by omega) (by omega), decide_eq_false (by omega)]
    rfl
  rw [loopO_next (t' := ((x.length : Int), ((1 : Int), ()))) (by
    simp only [List.length_cons, List.length_nil]
    rw [show getI (x :: y :: []) 0 = some x from rfl]
    simp only [Option.bind_some]
    rw [s1 0 _ (by omega) (by omega) (by omega), wrap_i64_in (n := 0 + (x.length : Int)) (by omega) (by omega)]
    simp [IntKind.wrap_i64])]
  rw [loopO_next (t' := (((x.length + y.length : Nat) : Int), ((2 : Int), ()))) (by
    simp only [List.length_cons, List.length_nil]
    rw [show getI (x :: y :: []) 1 = some y from rfl]
    simp only [Option.bind_some]
    rw [s1 _ _ (by omega) (by omega) (by omega), wrap_i64_in (n := (x.length : Int) + (y.length : Int)) (by omega) (by omega)]
    simp [IntKind.wrap_i64])]
  rw [loopO_out (e := (((x.length + y.length : Nat) : Int), ())) (by simp)]
  simp only [Option.bind_some]
  have hg : growX ((x.length + y.length : Nat) : Int) 1 = true := by
    unfold growX
    refine decide_eq_true ⟨by omega, by omega, by simp [maxLen]; omega⟩
  rw [hg, cond_true]
  rw [loopO_next (t' := (x, ((1 : Int), ()))) (by
    simp only [List.length_cons, List.length_nil]
    rw [show getI (x :: y :: []) 0 = some x from rfl]
    simp only [Option.bind_some]
    rw [appX_ok (by simp; omega) (by simp [maxLen]; omega)]
    simp [IntKind.wrap_i64])]
  rw [loopO_next (t' := (x ++ y, ((2 : Int), ()))) (by
    simp only [List.length_cons, List.length_nil]
    rw [show getI (x :: y :: []) 1 = some y from rfl]
    simp only [Option.bind_some]
    rw [appX_ok (by omega) (by simp [maxLen]; omega)]
    simp [IntKind.wrap_i64])]
  rw [loopO_out (e := (x ++ y, ())) (by simp)]
  rfl

theorem inI_nat {i n : Nat} (h : i < n) : inI (i : Int) n = true := by
  unfold inI
  exact decide_eq_true ⟨by omega, by omega⟩
theorem put_at (l : List FileQ) (n : Nat) (x y : FileQ) (h : n ≤ l.length) : (l.take n ++ x :: l.drop n).set n y = l.take n ++ y :: l.drop n := by
  rw [List.set_append_right _ _ (by rw [List.length_take]; omega)]
  rw [List.length_take, Nat.min_eq_left h, Nat.sub_self]
  rfl
theorem get_at (l : List FileQ) (n : Nat) (x : FileQ) (h : n ≤ l.length) : (l.take n ++ x :: l.drop n)[n]? = some x := by
  rw [List.getElem?_append_right (by rw [List.length_take]; omega)]
  rw [List.length_take, Nat.min_eq_left h, Nat.sub_self]
  rfl

/-- The end of an operation: the fuse. -/
theorem fuse_end {d : DiskQ} (h : RightD d) (x y : DiskQ × (Int × Unit)) (z : Int → DiskQ × (Int × Unit)) (r : DiskQ × (Int × Unit)) (h0 : d.2.2.1 = 0 → x = r) (h1 : d.2.2.1 = -1 → y = r) (h2 : d.2.2.1 ≠ 0 → d.2.2.1 ≠ -1 → z (d.2.2.1 - 1) = r) (hw : d.2.2.1 < 9223372036854775808) :
    (bif (d.2.2.1 == 0) then some x else bif (d.2.2.1 == (-1)) then some y else some (z (IntKind.wrap .i64 (d.2.2.1 - 1)))) = some r := by
  have hf := h.fuse
  by_cases c0 : d.2.2.1 = 0
  · have e : (d.2.2.1 == 0) = true := by simpa using c0
    rw [e, cond_true, h0 c0]
  · have e : (d.2.2.1 == 0) = false := by simpa using c0
    rw [e, cond_false]
    by_cases c1 : d.2.2.1 = -1
    · have e : (d.2.2.1 == (-1)) = true := by simpa using c1
      rw [e, cond_true, h1 c1]
    · have e : (d.2.2.1 == (-1)) = false := by simpa using c1
      rw [e, cond_false, wrap_i64_in (by omega) (by omega), h2 c0 c1]
end Go.AI
