/- disk: the program does what is said: names that change, files that are cut, the power that comes again. -/
import Derived.Test.YtbcffodjbbcdhaaXDiskD
namespace Go.AI
open IntKind

theorem ins_ok {l : List FileQ} {x : FileQ} (hl : l.length ≤ 1000) (h : getF l x.1 = none) : insX l (rankF l x.1 : Int) (x :: []) 48 = some (putF l x) := by
  have hle := rankF_le l x.1
  unfold insX
  rw [if_pos ⟨by simp, by omega, by omega, by simp; omega, by simp [maxLen]; omega⟩, Int.toNat_natCast, putF_new h]
  simp
theorem put_ok {l : List FileQ} (hs : Srt l) (hl : l.length ≤ 1000) {b : ByteArray} {x : FileQ} (hx : x.1 = b) (T : Int × (Int × (Bool × Unit))) :
    (bif (getF l b).isSome then bif (inI (rankF l b : Int) l.length) then (l[(Int.toNat (rankF l b : Int))]?).bind (fun (_ : FileQ) =>
        some (((List.set l (Int.toNat (rankF l b : Int)) x), T), ((0 : Int), ())))
      else none
     else ((insX l (rankF l b : Int) (x :: []) 48)).bind (fun (v : (List FileQ)) =>
      some ((v, T), ((0 : Int), ())))) = some ((putF l x, T), (0, ())) := by
  subst hx
  cases hg : getF l x.1 with
  | none => rw [show (none : Option FileQ).isSome = false from rfl, cond_false, ins_ok hl hg]; rfl
  | some g =>
    have hat := getF_at hs hg
    have hlt : rankF l x.1 < l.length := (List.getElem?_eq_some_iff.1 hat).1
    rw [show (some g).isSome = true from rfl, cond_true, inI_nat hlt, cond_true, Int.toNat_natCast, hat, Option.bind_some, putF_old hs hg]

theorem disk_Rename {d : DiskQ} {a b : ByteArray} (hd : NamesOk d.1) (ha : a.size ≤ maxLen) (hb : b.size ≤ maxLen) (hw : d.2.2.1 < 9223372036854775808) : g_disk_Rename (d, (a, (b, ()))) = some (renD d a b) := by
  unfold g_disk_Rename renD onD
  rw [show appX (b :: []) (a :: []) 16 = some [b, a] by rw [appX_ok (by simp) (by simp [maxLen])]; rfl, Option.bind_some]
  rw [disk_ready d [b, a] hd (by intro n hn; simp at hn; rcases hn with rfl | rfl <;> assumption) (by simp), Option.bind_some]
  by_cases he : errD d [b, a] = 0
  rotate_left
  · have e : (errD d [b, a] != 0) = true := by simpa using he
    rw [e, cond_true, if_pos he]
    rfl
  have hR := errD_right he
  have h64 := hR.len
  have hf := hR.fuse
  rw [he, if_neg (by simp)]
  rw [show ((0 : Int) != 0) = false from rfl, cond_false, disk_find d a hR.srt (by omega), Option.bind_some]
  cases hg : getF d.1 a with
  | none => rfl
  | some f =>
    have hat := getF_at hR.srt hg
    have hlt : rankF d.1 a < d.1.length := (List.getElem?_eq_some_iff.1 hat).1
    have hs2 := delF_srt hR.srt a
    have hl2 := delF_length hg
    simp only [Option.isSome_some, Bool.not_true, cond_false]
    rw [getI_nat, hat]
    simp only [Option.bind_some]
    rw [appX_disk (l := d.1) (by omega)]
    simp only [Option.bind_some]
    rw [delX_at hd ha hw hlt (by omega), ← delF_at hR.srt hg]
    simp only [Option.bind_some]
    have find : ∀ T, g_disk_find ((delF d.1 a, T), (b, ())) = some ((rankF (delF d.1 a) b : Int), ((getF (delF d.1 a) b).isSome, ())) := fun T => disk_find (delF d.1 a, T) b hs2 (by simp only; omega)
    by_cases c0 : d.2.2.1 = 0
    · have e : (d.2.2.1 == 0) = true := by simpa using c0
      rw [e, cond_true]
      unfold goD
      rw [if_pos c0]
      rfl
    · have e : (d.2.2.1 == 0) = false := by simpa using c0
      rw [e, cond_false]
      by_cases c1 : d.2.2.1 = -1
      · have e : (d.2.2.1 == (-1)) = true := by simpa using c1
        rw [e, cond_true, find, Option.bind_some]
        simp only
        rw [put_ok hs2 (by omega) (x := (b, f.2)) rfl]
        unfold goD burnD
        rw [if_neg c0, if_pos c1, ← c1]
      · have e : (d.2.2.1 == (-1)) = false := by simpa using c1
        rw [e, cond_false, find, Option.bind_some]
        simp only
        rw [put_ok hs2 (by omega) (x := (b, f.2)) rfl, wrap_i64_in (by omega) (by omega)]
        unfold goD burnD
        rw [if_neg c0, if_neg c1]

theorem cut_at {l : List FileQ} (hs : Srt l) (h64 : l.length ≤ 64) {n : ByteArray} {f : FileQ} (hg : getF l n = some f) (hsz : f.2.1.length ≤ 65536) {k : Int} (h0 : 0 ≤ k) (h1 : k ≤ f.2.1.length) (T : Int × (Int × (Bool × Unit))) :
    ((appX [] l 48)).bind (fun (v22 : (List FileQ)) =>
       bif (inI (rankF l n : Int) v22.length) then (v22[(Int.toNat (rankF l n : Int))]?).bind (fun (v23 : FileQ) =>
         ((subI v23.2.1 0 k)).bind (fun (v24 : (List Int)) =>
          ((g_clone59 (v24, ()))).bind (fun (v25 : (List Int)) =>
           (v22[(Int.toNat (rankF l n : Int))]?).bind (fun (v26 : FileQ) =>
            (v22[(Int.toNat (rankF l n : Int))]?).bind (fun (v27 : FileQ) =>
             ((List.set v22 (Int.toNat (rankF l n : Int)) (v27.1, (v25, v27.2.2)))[(Int.toNat (rankF l n : Int))]?).bind (fun (v28 : FileQ) =>
              some (((List.set (List.set v22 (Int.toNat (rankF l n : Int)) (v27.1, (v25, v27.2.2))) (Int.toNat (rankF l n : Int)) (v28.1, (v28.2.1, ((if (false = true) then (if (k > v26.2.2.1) then k else v26.2.2.1) else (if (k < v26.2.2.1) then k else v26.2.2.1)), ())))), T), ((0 : Int), ()))))))))
       else none) = some ((putF l (cutF f k), T), (0, ())) := by
  have hat := getF_at hs hg
  have hlt : rankF l n < l.length := (List.getElem?_eq_some_iff.1 hat).1
  rw [appX_disk (by omega), Option.bind_some, inI_nat hlt, cond_true, Int.toNat_natCast, hat, Option.bind_some]
  have e : subI f.2.1 0 k = some (f.2.1.take k.toNat) := by
    have := subI_nat f.2.1 (a := 0) (b := k.toNat) (Nat.zero_le _) (by omega)
    rw [Int.toNat_of_nonneg h0] at this
    simpa using this
  rw [e, Option.bind_some, clone_ok _ (by rw [List.length_take]; omega)]
  simp only [Option.bind_some]
  rw [List.getElem?_set_self hlt]
  simp only [Option.bind_some, List.set_set, Bool.false_eq_true, if_false]
  unfold cutF
  rw [putF_old hs (g := f) (by simp only; rw [getF_name hg]; exact hg)]
  simp only [getF_name hg]

theorem disk_Cut {d : DiskQ} {n : ByteArray} (hd : NamesOk d.1) (hn : n.size ≤ maxLen) (hw : d.2.2.1 < 9223372036854775808) (k : Int) : g_disk_Cut (d, (n, (k, ()))) = some (cutD d n k) := by
  unfold g_disk_Cut cutD onD
  rw [show appX [] (n :: []) 16 = some [n] by rw [appX_ok (by simp) (by simp [maxLen])]; rfl, Option.bind_some]
  rw [disk_ready d [n] hd (by simpa using hn) (by simp), Option.bind_some]
  by_cases he : errD d [n] = 0
  rotate_left
  · have e : (errD d [n] != 0) = true := by simpa using he
    rw [e, cond_true, if_pos he]
    rfl
  have hR := errD_right he
  have h64 := hR.len
  have hf := hR.fuse
  rw [he, if_neg (by simp)]
  rw [show ((0 : Int) != 0) = false from rfl, cond_false, disk_find d n hR.srt (by omega), Option.bind_some]
  cases hg : getF d.1 n with
  | none => rfl
  | some f =>
    have hat := getF_at hR.srt hg
    have hsz := hR.size (getF_mem hg)
    simp only [Option.isSome_some, Bool.not_true, cond_false]
    rw [getI_nat, hat]
    simp only [Option.bind_some]
    have e1 : (bif (decide (k < 0)) then some ((decide (k < 0)), ()) else some ((decide (k > (f.2.1.length : Int))), ())) = some (decide (k < 0 ∨ (f.2.1.length : Int) < k), ()) := by
      by_cases h : k < 0
      · rw [decide_eq_true h, decide_eq_true (.inl h : k < 0 ∨ (f.2.1.length : Int) < k)]; rfl
      · rw [decide_eq_false h, cond_false]
        congr 2
        apply decide_eq_decide.2
        exact ⟨.inr, fun hh => hh.resolve_left h⟩
    rw [e1, Option.bind_some]
    by_cases c : k < 0 ∨ (f.2.1.length : Int) < k
    · rw [decide_eq_true c, if_pos c]
      rfl
    rw [if_neg c]
    simp only [decide_eq_false c, cond_false]
    by_cases c0 : d.2.2.1 = 0
    · have e : (d.2.2.1 == 0) = true := by simpa using c0
      rw [e, cond_true]
      unfold goD
      rw [if_pos c0]
      rfl
    · have e : (d.2.2.1 == 0) = false := by simpa using c0
      rw [e, cond_false]
      by_cases c1 : d.2.2.1 = -1
      · have e : (d.2.2.1 == (-1)) = true := by simpa using c1
        rw [e, cond_true]
        refine (cut_at hR.srt h64 hg hsz (k := k) (by omega) (by omega) d.2).trans ?_
        unfold goD burnD
        rw [if_neg c0, if_pos c1, ← c1]
      · have e : (d.2.2.1 == (-1)) = false := by simpa using c1
        rw [e, cond_false]
        refine (cut_at hR.srt h64 hg hsz (k := k) (by omega) (by omega) (d.2.1, ((IntKind.wrap .i64 (d.2.2.1 - 1)), d.2.2.2))).trans ?_
        rw [wrap_i64_in (by omega) (by omega)]
        unfold goD burnD
        rw [if_neg c0, if_neg c1]

/-! ### The power comes again -/
theorem keep_if (s l : Int) (k : Int) (h0 : 0 ≤ s) (h1 : s ≤ l) : (if (false = true) then (if ((l - s)) > (if (true = true) then (if (0 > k) then 0 else k) else (if (0 < k) then 0 else k)) then (l - s) else (if (true = true) then (if (0 > k) then 0 else k) else (if (0 < k) then 0 else k))) else (if ((l - s) < (if (true = true) then (if (0 > k) then 0 else k) else (if (0 < k) then 0 else k))) then (l - s) else (if (true = true) then (if (0 > k) then 0 else k) else (if (0 < k) then 0 else k)))) = min (max k 0) (l - s) := by
  simp only [Bool.false_eq_true, if_false, if_true]
  rw [Int.min_def, Int.max_def]
  split <;> split <;> split <;> (try split) <;> omega
theorem keepI_in {f : FileQ} (k : Int) (h0 : 0 ≤ f.2.2.1) (h1 : f.2.2.1 ≤ f.2.1.length) : f.2.2.1 ≤ keepI f k ∧ keepI f k ≤ f.2.1.length := by
  unfold keepI
  omega
theorem disk_left (f : FileQ) (k : Int) (h0 : 0 ≤ f.2.2.1) (h1 : f.2.2.1 ≤ f.2.1.length) (h2 : f.2.1.length ≤ 65536) : g_disk_left (f, (k, ())) = some (leftF f k) := by
  have hk := keepI_in k h0 h1
  unfold g_disk_left
  dsimp only
  rw [wrap_i64_in (n := (f.2.1.length : Int) - f.2.2.1) (by omega) (by omega), keep_if _ _ _ h0 h1]
  rw [show f.2.2.1 + min (max k 0) ((f.2.1.length : Int) - f.2.2.1) = keepI f k from rfl]
  rw [wrap_i64_in (n := keepI f k) (by omega) (by omega)]
  have e : subI f.2.1 0 (keepI f k) = some (f.2.1.take (keepI f k).toNat) := by
    have := subI_nat f.2.1 (a := 0) (b := (keepI f k).toNat) (Nat.zero_le _) (by omega)
    rw [Int.toNat_of_nonneg (by omega)] at this
    simpa using this
  rw [e, Option.bind_some, clone_ok _ (by rw [List.length_take]; omega)]
  rfl

theorem backL_length (keep : List Int) : ∀ (i : Nat) (l : List FileQ), (backL keep i l).length = l.length
  | _, [] => rfl
  | i, f :: l => by simp only [backL, List.length_cons, backL_length keep (i + 1) l]
theorem backL_get (keep : List Int) : ∀ (l : List FileQ) (j i : Nat), (backL keep j l)[i]? = (l[i]?).map fun f => leftF f (keepAt keep (j + i))
  | [], _, _ => by simp [backL]
  | f :: l, j, 0 => by simp [backL]
  | f :: l, j, i + 1 => by
    simp only [backL, List.getElem?_cons_succ, backL_get keep l (j + 1) i]
    rw [show j + 1 + i = j + (i + 1) by omega]
theorem keepAt_run {ε : Type} (keep : List Int) (i : Nat) (hi : i < 9223372036854775807) (hk : keep.length < 9223372036854775807) (K : Int × Unit → Option ε) :
    ((bif (decide ((keep.length : Int) > 0)) then bif (decide ((keep.length : Int) = 0)) then none
          else ((getI keep (Int.tmod (i : Int) (keep.length : Int)))).bind (fun (v5 : Int) =>
           some (v5, ()))
         else some (0, ())) : Option (Int × Unit)).bind K = K (keepAt keep i, ()) := by
  have _ := hi
  have _ := hk
  unfold keepAt
  by_cases h : keep.length = 0
  · rw [decide_eq_false (by omega), cond_false, Option.bind_some, dif_pos h]
  · rw [decide_eq_true (by omega), cond_true, decide_eq_false (by omega), cond_false, dif_neg h]
    have hm : i % keep.length < keep.length := Nat.mod_lt _ (by omega)
    have e : Int.tmod (i : Int) (keep.length : Int) = ((i % keep.length : Nat) : Int) := tmod_nat _ _
    rw [e, getI_nat, List.getElem?_eq_getElem hm]
    rfl

theorem disk_Back {d : DiskQ} (hd : NamesOk d.1) (keep : List Int) (hk : keep.length ≤ 1000000) (fuse : Int) : g_disk_Back (d, (keep, (fuse, ()))) = some (backD d keep fuse) := by
  unfold g_disk_Back backD
  rw [disk_Right d hd, Option.bind_some]
  cases hr : rightB d with
  | false => simp
  | true =>
    have hR := (rightB_iff d).1 hr
    have h64 := hR.len
    by_cases hf : fuse < -1
    · rw [if_pos (.inr hf)]
      dsimp only
      rw [decide_eq_true hf]
      rfl
    · rw [if_neg (by simp [hf])]
      dsimp only
      rw [decide_eq_false hf]
      simp only [Bool.not_true, Bool.or_false, cond_false]
      rw [appX_disk (by omega), Option.bind_some]
      rw [loop_over0 d.1 (fun i (b : List FileQ) => ((i : Int), (b, d.2))) (fun _ _ => (backL keep 0 d.1, d.2)) (fun i b => b = (backL keep 0 d.1).take i ++ d.1.drop i) (b := d.1) ?_ ?_ (by simp) (by rfl)]
      · rfl
      · intro b hb
        subst hb
        simp only [ltI', cond_false]
        rw [List.drop_length, List.append_nil, List.take_of_length_le (by rw [backL_length]; omega)]
        rfl
      · intro i b hi hb
        subst hb
        left
        have hA : i < (backL keep 0 d.1).length := by rw [backL_length]; exact hi
        have htk : ((backL keep 0 d.1).take i).length = i := by rw [List.length_take]; omega
        have hmem : d.1[i] ∈ d.1 := List.getElem_mem hi
        have hget : ((backL keep 0 d.1).take i ++ d.1.drop i)[i]? = some d.1[i] := by
          rw [List.getElem?_append_right (by omega), htk, Nat.sub_self, drop_at hi]
          rfl
        have hlt : i < ((backL keep 0 d.1).take i ++ d.1.drop i).length := (List.getElem?_eq_some_iff.1 hget).1
        have hb2 : (backL keep 0 d.1)[i] = leftF d.1[i] (keepAt keep i) := by
          have := backL_get keep d.1 0 i
          rw [List.getElem?_eq_getElem hA, List.getElem?_eq_getElem hi] at this
          simpa using this
        refine ⟨(backL keep 0 d.1).take (i + 1) ++ d.1.drop (i + 1), ?_, rfl, rfl⟩
        simp only [ltI hi, cond_true, inI_nat hlt, Int.toNat_natCast, hget, Option.bind_some]
        rw [keepAt_run keep i (by omega) (by omega), disk_left _ _ (hR.sure _ hmem).1 (hR.sure _ hmem).2 (hR.size hmem), Option.bind_some, wrap_succ (by omega)]
        congr 4
        rw [List.set_append_right _ _ (by omega), htk, Nat.sub_self, drop_at hi, List.set_cons_zero, ← hb2, List.take_succ_eq_append_getElem hA, List.append_assoc]
        rfl
end Go.AI
