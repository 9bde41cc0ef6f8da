/- disk: the program does what is said. -/
import Derived.Test.YtbcffodjbbcdhaaXDiskC
namespace Go.AI
open IntKind

theorem goD_zero {a b : DiskQ} (h : a.2.2.1 = 0) : goD a b = (downD a, (9, ())) := by unfold goD; rw [if_pos h]
theorem goD_none {a b : DiskQ} (h : a.2.2.1 = -1) (hb : b.2.2.1 = -1) : goD a b = (b, (0, ())) := by
  unfold goD
  rw [if_neg (by omega)]
  obtain ⟨l, r, f, t⟩ := b
  simp only at hb
  subst hb
  rfl
theorem goD_some {a b : DiskQ} (h : a.2.2.1 ≠ 0) (hb : b.2.2.1 ≠ -1) : goD a b = ((b.1, (b.2.1, (b.2.2.1 - 1, b.2.2.2))), (0, ())) := by
  unfold goD burnD
  rw [if_neg h, if_neg hb]
theorem appX_disk {l : List FileQ} (h : l.length ≤ 1000) : appX [] l 48 = some l := by
  rw [appX_ok (by simp; omega) (by simp [maxLen]; omega)]
  rfl

theorem disk_New (room : Int) : g_disk_New (room, ()) = some (if 0 ≤ room ∧ room ≤ 65536 then (([], (room, (-1, (false, ())))), (0, ())) else (([], (0, (0, (false, ())))), (1, ()))) := by
  unfold g_disk_New
  rw [disk_Right ([], (room, (-1, (false, ())))) (fun _ h => by cases h), Option.bind_some]
  by_cases c : 0 ≤ room ∧ room ≤ 65536
  · have : rightB ([], (room, (-1, (false, ())))) = true := by
      unfold rightB okL
      simp [c.1, c.2]
    rw [this, if_pos c]
    rfl
  · have : rightB ([], (room, (-1, (false, ())))) = false := by
      unfold rightB okL
      simp only [Bool.and_true, decide_eq_false_iff_not]
      rintro ⟨h1, h2, _⟩
      exact c ⟨h1, h2⟩
    rw [this, if_neg c]
    rfl

section
variable {d : DiskQ} {n : ByteArray} (hd : NamesOk d.1) (hn : n.size ≤ maxLen) (hw : d.2.2.1 < 9223372036854775808)
include hd hn hw

theorem disk_Append (b : List Int) (hb : b.length ≤ 100000) : g_disk_Append (d, (n, (b, ()))) = some (appD d n b) := by
  unfold g_disk_Append appD
  rw [disk_ready d [n] hd (by simpa using hn) (by simp), Option.bind_some]
  by_cases he : errD d [n] = 0
  rotate_left
  · have e : (errD d [n] != 0) = true := by simpa using he
    rw [e, cond_true, if_pos he]
  have hR := errD_right he
  have h64 := hR.len
  have hu := hR.used
  have hr1 := hR.room1
  have hr0 := hR.room0
  rw [he, if_neg (by simp)]
  rw [show ((0 : Int) != 0) = false from rfl, cond_false, disk_find d n hR.srt (by omega), Option.bind_some]
  rw [disk_Used d (by omega) (by unfold maxLen; omega), Option.bind_some]
  dsimp only
  rw [wrap_i64_in (by omega) (by omega)]
  have e1 : ((decide ((b.length : Int) > d.2.1 - (usedF d.1 : Int))) || ((!(getF d.1 n).isSome) && ((d.1.length : Int) == 64))) = decide (d.2.1 < usedF d.1 + b.length ∨ (getF d.1 n = none ∧ d.1.length = 64)) := by
    rw [Bool.decide_or, Bool.decide_and]
    congr 1
    · apply decide_eq_decide.2; omega
    · congr 1
      · cases getF d.1 n <;> rfl
      · rw [Bool.eq_iff_iff]; simp; omega
  rw [e1]
  by_cases c : d.2.1 < usedF d.1 + b.length ∨ (getF d.1 n = none ∧ d.1.length = 64)
  · rw [decide_eq_true c, cond_true, if_pos c]
  rw [decide_eq_false c, cond_false, if_neg c, appX_disk (by omega), Option.bind_some]
  have hle := rankF_le d.1 n
  have key : ∀ (l2 : List FileQ) (g : FileQ), l2[rankF d.1 n]? = some g → g.2.1.length ≤ 65536 → l2.set (rankF d.1 n) (g.1, (g.2.1 ++ b, g.2.2)) = putF d.1 (n, ((fileOf d.1 n).2.1 ++ b, (fileOf d.1 n).2.2)) →
      (bif (inI (rankF d.1 n : Int) l2.length) then (l2[(Int.toNat (rankF d.1 n : Int))]?).bind (fun (v7 : FileQ) =>
        ((g_slices_Concat ((v7.2.1 :: (b :: [])), ()))).bind (fun (v8 : (List Int)) =>
         bif (inI (rankF d.1 n : Int) l2.length) then (l2[(Int.toNat (rankF d.1 n : Int))]?).bind (fun (v9 : FileQ) =>
           bif (d.2.2.1 == 0) then some (((List.set l2 (Int.toNat (rankF d.1 n : Int)) (v9.1, (v8, v9.2.2))), (d.2.1, (d.2.2.1, (true, ())))), (9, ()))
           else bif (d.2.2.1 == (-1)) then some (((List.set l2 (Int.toNat (rankF d.1 n : Int)) (v9.1, (v8, v9.2.2))), d.2), ((0 : Int), ()))
           else some (((List.set l2 (Int.toNat (rankF d.1 n : Int)) (v9.1, (v8, v9.2.2))), (d.2.1, ((IntKind.wrap .i64 (d.2.2.1 - 1)), d.2.2.2))), (0, ())))
         else none))
      else none) = some (goD (putF d.1 (n, ((fileOf d.1 n).2.1 ++ b, (fileOf d.1 n).2.2)), d.2) (putF d.1 (n, ((fileOf d.1 n).2.1 ++ b, (fileOf d.1 n).2.2)), d.2)) := by
    intro l2 g hg hlen hset
    have hlt : rankF d.1 n < l2.length := (List.getElem?_eq_some_iff.1 hg).1
    rw [inI_nat hlt, cond_true, Int.toNat_natCast, hg, Option.bind_some, concat_ok _ _ (by omega)]
    simp only [Option.bind_some, hset]
    have hf := hR.fuse
    by_cases c0 : d.2.2.1 = 0
    · have e : (d.2.2.1 == 0) = true := by simpa using c0
      rw [e, cond_true]
      unfold goD
      rw [if_pos c0]
      rfl
    · have e : (d.2.2.1 == 0) = false := by simpa using c0
      rw [e, cond_false]
      by_cases c1 : d.2.2.1 = -1
      · have e : (d.2.2.1 == (-1)) = true := by simpa using c1
        rw [e, cond_true]
        unfold goD burnD
        rw [if_neg c0, if_pos c1, ← c1]
        rfl
      · have e : (d.2.2.1 == (-1)) = false := by simpa using c1
        rw [e, cond_false, wrap_i64_in (by omega) (by omega)]
        unfold goD burnD
        rw [if_neg c0, if_neg c1]
        rfl
  cases hg : getF d.1 n with
  | none =>
    have hlen : d.1.length ≠ 64 := fun h => c (.inr ⟨hg, h⟩)
    rw [show (!(none : Option FileQ).isSome) = true from rfl, cond_true]
    have hins : insX d.1 ((rankF d.1 n : Nat) : Int) ((n, ([], (0, ()))) :: []) 48 = some (d.1.take (rankF d.1 n) ++ (n, (([] : List Int), ((0 : Int), ()))) :: d.1.drop (rankF d.1 n)) := by
      unfold insX
      rw [if_pos ⟨by simp, by omega, by omega, by simp; omega, by simp [maxLen]; omega⟩, Int.toNat_natCast]
      simp
    rw [hins, Option.bind_some, Option.bind_some]
    refine key _ (n, ([], (0, ()))) (get_at _ _ _ hle) (by simp) ?_
    rw [put_at _ _ _ _ hle]
    have : fileOf d.1 n = (n, ([], (0, ()))) := by unfold fileOf; rw [hg]; rfl
    rw [this]
    rw [putF_new (f := (n, (([] : List Int) ++ b, ((0 : Int), ())))) hg]
  | some g =>
    rw [show (!(some g).isSome) = false from rfl, cond_false, Option.bind_some]
    refine key _ g (getF_at hR.srt hg) (hR.size (getF_mem hg)) ?_
    have : fileOf d.1 n = g := by unfold fileOf; rw [hg]; rfl
    rw [this]
    rw [putF_old hR.srt (f := (n, (g.2.1 ++ b, g.2.2))) hg, getF_name hg]

theorem disk_Sync : g_disk_Sync (d, (n, ())) = some (syncD d n) := by
  unfold g_disk_Sync syncD onD
  rw [show appX [] (n :: []) 16 = some [n] by rw [appX_ok (by simp) (by simp [maxLen])]; rfl, Option.bind_some]
  rw [disk_ready d [n] hd (by simpa using hn) (by simp), Option.bind_some]
  by_cases he : errD d [n] = 0
  rotate_left
  · have e : (errD d [n] != 0) = true := by simpa using he
    rw [e, cond_true, if_pos he]
    rfl
  have hR := errD_right he
  have h64 := hR.len
  have hf := hR.fuse
  rw [he, if_neg (by simp)]
  rw [show ((0 : Int) != 0) = false from rfl, cond_false, disk_find d n hR.srt (by omega), Option.bind_some]
  cases hg : getF d.1 n with
  | none => rfl
  | some f =>
    have hat := getF_at hR.srt hg
    have hlt : rankF d.1 n < d.1.length := (List.getElem?_eq_some_iff.1 hat).1
    have hput : d.1.set (rankF d.1 n) (f.1, (f.2.1, ((f.2.1.length : Int), ()))) = putF d.1 (f.1, (f.2.1, ((f.2.1.length : Int), ()))) := by
      rw [putF_old hR.srt (f := (f.1, (f.2.1, ((f.2.1.length : Int), ())))) (g := f) (by rw [getF_name hg]; exact hg), getF_name hg]
    simp only [Option.isSome_some, Bool.not_true, cond_false]
    simp only [appX_disk (l := d.1) (by omega), Option.bind_some, inI_nat hlt, cond_true, Int.toNat_natCast, hat, hput]
    by_cases c0 : d.2.2.1 = 0
    · have e : (d.2.2.1 == 0) = true := by simpa using c0
      rw [e, cond_true]
      unfold goD
      rw [if_pos c0]
      rfl
    · have e : (d.2.2.1 == 0) = false := by simpa using c0
      rw [e, cond_false]
      by_cases c1 : d.2.2.1 = -1
      · have e : (d.2.2.1 == (-1)) = true := by simpa using c1
        rw [e, cond_true]
        unfold goD burnD
        rw [if_neg c0, if_pos c1, ← c1]
      · have e : (d.2.2.1 == (-1)) = false := by simpa using c1
        rw [e, cond_false, wrap_i64_in (by omega) (by omega)]
        unfold goD burnD
        rw [if_neg c0, if_neg c1]

omit hw in
theorem disk_Read : g_disk_Read (d, (n, ())) = some (readD d n) := by
  unfold g_disk_Read readD
  rw [show appX [] (n :: []) 16 = some [n] by rw [appX_ok (by simp) (by simp [maxLen])]; rfl, Option.bind_some]
  rw [disk_ready d [n] hd (by simpa using hn) (by simp), Option.bind_some]
  by_cases he : errD d [n] = 0
  rotate_left
  · have e : (errD d [n] != 0) = true := by simpa using he
    rw [e, cond_true, if_pos he]
    rfl
  have hR := errD_right he
  have h64 := hR.len
  rw [he, if_neg (by simp)]
  rw [show ((0 : Int) != 0) = false from rfl, cond_false, disk_find d n hR.srt (by omega), Option.bind_some]
  cases hg : getF d.1 n with
  | none => rfl
  | some f =>
    have hat := getF_at hR.srt hg
    have hsz := hR.size (getF_mem hg)
    simp only [Option.isSome_some, Bool.not_true, cond_false]
    rw [getI_nat, hat, Option.bind_some, clone_ok _ (by omega)]
    rfl

theorem delX_at {l : List FileQ} (h : rankF l n < l.length) (hl : l.length ≤ 1000) : delX l (rankF l n : Int) (IntKind.wrap .i64 ((rankF l n : Int) + 1)) = some (l.take (rankF l n) ++ l.drop (rankF l n + 1)) := by
  have _ := hd
  have _ := hn
  have _ := hw
  rw [wrap_succ (by omega)]
  unfold delX
  rw [if_pos ⟨by omega, by omega, by omega, by unfold maxLen; omega⟩, Int.toNat_natCast, Int.toNat_natCast]

theorem disk_Remove : g_disk_Remove (d, (n, ())) = some (remD d n) := by
  unfold g_disk_Remove remD onD
  rw [show appX [] (n :: []) 16 = some [n] by rw [appX_ok (by simp) (by simp [maxLen])]; rfl, Option.bind_some]
  rw [disk_ready d [n] hd (by simpa using hn) (by simp), Option.bind_some]
  by_cases he : errD d [n] = 0
  rotate_left
  · have e : (errD d [n] != 0) = true := by simpa using he
    rw [e, cond_true, if_pos he]
    rfl
  have hR := errD_right he
  have h64 := hR.len
  have hf := hR.fuse
  rw [he, if_neg (by simp)]
  rw [show ((0 : Int) != 0) = false from rfl, cond_false, disk_find d n hR.srt (by omega), Option.bind_some]
  cases hg : getF d.1 n with
  | none => rfl
  | some f =>
    have hat := getF_at hR.srt hg
    have hlt : rankF d.1 n < d.1.length := (List.getElem?_eq_some_iff.1 hat).1
    simp only [Option.isSome_some, Bool.not_true, cond_false]
    simp only [appX_disk (l := d.1) (by omega), Option.bind_some, delX_at hd hn hw hlt (by omega), ← delF_at hR.srt hg]
    by_cases c0 : d.2.2.1 = 0
    · have e : (d.2.2.1 == 0) = true := by simpa using c0
      rw [e, cond_true]
      unfold goD
      rw [if_pos c0]
      rfl
    · have e : (d.2.2.1 == 0) = false := by simpa using c0
      rw [e, cond_false]
      by_cases c1 : d.2.2.1 = -1
      · have e : (d.2.2.1 == (-1)) = true := by simpa using c1
        rw [e, cond_true]
        unfold goD burnD
        rw [if_neg c0, if_pos c1, ← c1]
      · have e : (d.2.2.1 == (-1)) = false := by simpa using c1
        rw [e, cond_false, wrap_i64_in (by omega) (by omega)]
        unfold goD burnD
        rw [if_neg c0, if_neg c1]
end
end Go.AI
