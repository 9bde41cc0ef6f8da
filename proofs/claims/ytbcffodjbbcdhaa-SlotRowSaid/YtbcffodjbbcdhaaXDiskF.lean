/- disk: the document's answer does what is said. -/
import Derived.Test.YtbcffodjbbcdhaaXDiskE
namespace Go.AI
open IntKind

/-! ### With a file; without one -/
def withR (f : FileQ) : List FileQ → Bool → List FileQ × Bool
  | [], p => ([], p)
  | x :: l, p => ((bif !p && !(ltS x.1 f.1) then [f] else []) ++ (bif decide (x.1 = f.1) then [] else [x]) ++ (withR f l (p || !(ltS x.1 f.1))).1, (withR f l (p || !(ltS x.1 f.1))).2)
theorem withR_behind (f : FileQ) : ∀ (l : List FileQ), (∀ x ∈ l, ltS f.1 x.1 = true) → withR f l true = (l, true)
  | [], _ => rfl
  | x :: l, h => by
    have hx := h x List.mem_cons_self
    simp only [withR, Bool.true_or, Bool.not_true, Bool.false_and, cond_false, List.nil_append]
    rw [withR_behind f l fun y hy => h y (List.mem_cons_of_mem _ hy), decide_eq_false (ltS_ne hx).symm]
    rfl
theorem withR_eq (f : FileQ) : ∀ (l : List FileQ), Srt l → (withR f l false).1 ++ (bif !(withR f l false).2 then [f] else []) = putF l f
  | [], _ => rfl
  | x :: l, hs => by
    simp only [withR, Bool.false_or, Bool.not_false, Bool.true_and, putF]
    cases h : ltS x.1 f.1 with
    | true =>
      rw [if_pos rfl, decide_eq_false (ltS_ne h), Bool.not_true, ← withR_eq f l hs.tail]
      rfl
    | false =>
      rw [if_neg (by simp)]
      simp only [Bool.not_false, cond_true]
      by_cases e : x.1 = f.1
      · rw [if_pos e, decide_eq_true e, withR_behind f l fun y hy => by rw [← e]; exact hs.head y hy]
        simp
      · have h1 : ltS f.1 x.1 = true := by
          cases hq : ltS f.1 x.1 with
          | true => rfl
          | false => exact absurd (ltS_tri h hq) e
        rw [if_neg e, decide_eq_false e, withR_behind f l fun y hy => ltS_trans h1 (hs.head y hy)]
        simp
theorem ref_with (d : DiskQ) (f : FileQ) (hs : Srt d.1) (hl : d.1.length ≤ 100) : g_ref03_with (d, (f, ())) = some (putF d.1 f, d.2) := by
  unfold g_ref03_with
  rw [loop_over0 d.1 (fun i (b : List FileQ × Bool) => (b.1, (b.2, ((i : Int), ())))) (fun l b => (b.1 ++ (withR f l b.2).1, ((withR f l b.2).2, ()))) (fun i b => b.1.length ≤ 2 * i) (b := ([], false)) ?_ ?_ (by simp) (by rfl)]
  · have hlen : (withR f d.1 false).1.length ≤ 300 := by
      have : ∀ (l : List FileQ) p, (withR f l p).1.length ≤ 2 * l.length := by
        intro l
        induction l with
        | nil => intro p; simp [withR]
        | cons x l ih =>
          intro p
          simp only [withR, List.length_append, List.length_cons]
          have h1 : ∀ c : Bool, (bif c then [f] else [] : List FileQ).length ≤ 1 := by intro c; cases c <;> simp
          have h2 : ∀ c : Bool, (bif c then [] else [x] : List FileQ).length ≤ 1 := by intro c; cases c <;> simp
          have := ih (p || !(ltS x.1 f.1))
          have := h1 (!p && !(ltS x.1 f.1))
          have := h2 (decide (x.1 = f.1))
          omega
      have := this d.1 false
      omega
    have h2 := withR_eq f d.1 hs
    simp only [List.nil_append, Option.bind_some]
    cases hp : (withR f d.1 false).2 with
    | true =>
      rw [hp] at h2
      rw [Bool.not_true, cond_false, Option.bind_some, ← h2]
      simp
    | false =>
      rw [hp] at h2
      rw [Bool.not_false, cond_true, appX_ok (by simp; omega) (by simp [maxLen]; omega), Option.bind_some, Option.bind_some, ← h2]
      rfl
  · intro b hb
    simp only [ltI', cond_false, withR, List.append_nil]
    rfl
  · intro i b hi hb
    obtain ⟨acc, p⟩ := b
    simp only at hb
    left
    simp only [ltI hi, cond_true, getI_at hi, Option.bind_some]
    rw [drop_at hi]
    generalize d.1[i] = x
    have e1 : (bif !p then some (!(Go.Op.bytesLess (ByteArray.toList x.1) (ByteArray.toList f.1))) else some false) = some (!p && !(ltS x.1 f.1)) := by cases p <;> rfl
    rw [e1]
    simp only [Option.bind_some]
    have e2 : (bif (!p && !(ltS x.1 f.1)) then ((appX acc (f :: []) 48)).bind (fun (v4 : (List FileQ)) => some (v4, (true, ()))) else some (acc, (p, ()))) = some (acc ++ (bif !p && !(ltS x.1 f.1) then [f] else []), ((p || !(ltS x.1 f.1)), ())) := by
      cases p with
      | true => simp
      | false =>
        cases ltS x.1 f.1 with
        | true => simp
        | false =>
          simp only [Bool.not_false, Bool.and_self, cond_true, Bool.or_true]
          rw [appX_ok (by simp; omega) (by simp [maxLen]; omega)]
          rfl
    rw [e2]
    simp only [Option.bind_some]
    have hb1 : (acc ++ (bif !p && !(ltS x.1 f.1) then [f] else [])).length ≤ 2 * i + 1 := by
      rw [List.length_append]
      cases (!p && !(ltS x.1 f.1)) <;> simp <;> omega
    generalize hA : acc ++ (bif !p && !(ltS x.1 f.1) then [f] else []) = A at hb1
    have e3 : (bif (!(decide (x.1 = f.1))) then ((appX A (x :: []) 48)).bind (fun (v8 : (List FileQ)) => some (v8, ())) else some (A, ())) = some (A ++ (bif decide (x.1 = f.1) then [] else [x]), ()) := by
      by_cases e : x.1 = f.1
      · rw [decide_eq_true e]; simp
      · rw [decide_eq_false e]
        simp only [Bool.not_false, cond_true, cond_false]
        rw [appX_ok (by simp; omega) (by simp [maxLen]; omega)]
        rfl
    rw [e3]
    simp only [Option.bind_some]
    refine ⟨(A ++ (bif decide (x.1 = f.1) then [] else [x]), (p || !(ltS x.1 f.1))), ?_, ?_, ?_⟩
    · rw [wrap_succ (by omega)]
    · simp only [List.length_append]
      cases decide (x.1 = f.1) <;> simp <;> omega
    · conv => lhs; unfold withR
      simp only [← hA, List.append_assoc]

def withoutF (l : List FileQ) (n : ByteArray) : List FileQ := l.filter fun x => !(decide (x.1 = n))
theorem withoutF_eq {l : List FileQ} (hs : Srt l) (n : ByteArray) : withoutF l n = delF l n := by
  induction l with
  | nil => rfl
  | cons x l ih =>
    have ih := ih hs.tail
    unfold withoutF at ih ⊢
    simp only [delF, List.filter_cons]
    by_cases e : x.1 = n
    · rw [decide_eq_true e, if_pos e]
      simp only [Bool.not_true, Bool.false_eq_true, if_false]
      rw [ih, delF_none (getF_none fun f hf => by rw [← e]; exact (ltS_ne (hs.head f hf)).symm)]
    · rw [decide_eq_false e, if_neg e]
      simp only [Bool.not_false, if_true, ih]
theorem ref_without (d : DiskQ) (n : ByteArray) (hs : Srt d.1) (hl : d.1.length ≤ 100) : g_ref03_without (d, (n, ())) = some (delF d.1 n, d.2) := by
  unfold g_ref03_without
  rw [loop_over0 d.1 (fun i (b : List FileQ) => (b, ((i : Int), ()))) (fun l b => (b ++ withoutF l n, ())) (fun i b => b.length ≤ i) (b := []) ?_ ?_ (by simp) (by rfl)]
  · rw [Option.bind_some, List.nil_append, withoutF_eq hs]
  · intro b hb
    simp only [ltI', cond_false, withoutF, List.filter_nil, List.append_nil]
    rfl
  · intro i b hi hb
    left
    simp only [ltI hi, cond_true, getI_at hi, Option.bind_some]
    rw [drop_at hi]
    generalize d.1[i] = x
    by_cases e : x.1 = n
    · refine ⟨b, ?_, by omega, ?_⟩
      · rw [decide_eq_true e]
        simp only [Bool.not_true, cond_false, Option.bind_some]
        rw [wrap_succ (by omega)]
      · unfold withoutF
        rw [List.filter_cons, decide_eq_true e]
        rfl
    · refine ⟨b ++ [x], ?_, by simp; omega, ?_⟩
      · rw [decide_eq_false e]
        simp only [Bool.not_false, cond_true]
        rw [appX_ok (by simp; omega) (by simp [maxLen]; omega)]
        simp only [Option.bind_some]
        rw [wrap_succ (by omega)]
      · unfold withoutF
        rw [List.filter_cons, decide_eq_false e]
        simp

theorem ref_power (d : DiskQ) (hf : -1 ≤ d.2.2.1) (hw : d.2.2.1 < 9223372036854775808) : g_ref03_power (d, ()) = some (if d.2.2.1 = 0 then (downD d, (false, ())) else (burnD d, (true, ()))) := by
  unfold g_ref03_power
  dsimp only
  by_cases c0 : d.2.2.1 = 0
  · have e : (d.2.2.1 == 0) = true := by simpa using c0
    rw [e, cond_true, if_pos c0]
    rfl
  · have e : (d.2.2.1 == 0) = false := by simpa using c0
    rw [e, cond_false, if_neg c0]
    by_cases c1 : d.2.2.1 = -1
    · rw [decide_eq_false (by omega), cond_false, Option.bind_some]
      unfold burnD
      rw [if_pos c1, ← c1]
    · rw [decide_eq_true (by omega), cond_true, Option.bind_some, wrap_i64_in (by omega) (by omega)]
      unfold burnD
      rw [if_neg c1]
theorem ref_first (d : DiskQ) (a b : ByteArray) (hd : NamesOk d.1) (ha : a.size ≤ maxLen) (hb : b.size ≤ maxLen) : g_ref03_first (d, (a, (b, ()))) = some (errD d [b, a]) := by
  unfold g_ref03_first errD
  rw [ref_Right d hd, Option.bind_some]
  cases rightB d with
  | false => rfl
  | true =>
    simp only [Bool.not_true, cond_false]
    cases d.2.2.2.1 with
    | true => rfl
    | false =>
      simp only [cond_false, List.all_cons, List.all_nil, Bool.and_true]
      rw [ref_Named a ha, ref_Named b hb]
      simp only [Option.bind_some]
      cases nameB a <;> cases nameB b <;> rfl
theorem errD_twice (d : DiskQ) (n : ByteArray) : errD d [n, n] = errD d [n] := by
  unfold errD
  simp only [List.all_cons, List.all_nil, Bool.and_true, Bool.and_self]

/-- The end of an operation, there. -/
theorem power_end {d : DiskQ} (hf : -1 ≤ d.2.2.1) (hw : d.2.2.1 < 9223372036854775808) {K : DiskQ → Option DiskQ} {l : List FileQ} (hK : ∀ e : DiskQ, e.1 = d.1 → K e = some (l, e.2)) :
    ((g_ref03_power (d, ()))).bind (fun (v3 : (DiskQ × (Bool × Unit))) => bif (!v3.2.1) then some (v3.1, ((9 : Int), ())) else (K v3.1).bind fun v => some (v, (0, ()))) = some (goD d (l, d.2)) := by
  rw [ref_power d hf hw, Option.bind_some]
  unfold goD
  by_cases c0 : d.2.2.1 = 0
  · rw [if_pos c0, if_pos c0]
    rfl
  · rw [if_neg c0, if_neg c0]
    simp only [Bool.not_true, cond_false]
    rw [hK (burnD d) rfl]
    rfl

section
variable {d : DiskQ} {n : ByteArray} (hd : NamesOk d.1) (hn : n.size ≤ maxLen) (hw : d.2.2.1 < 9223372036854775808)
include hd hn

omit hd hn in
theorem rank_neg (n : Nat) : decide ((n : Int) < 0) = false := decide_eq_false (by omega)

include hw
theorem ref_Append (b : List Int) (hb : b.length ≤ 100000) : g_ref03_Append (d, (n, (b, ()))) = some (appD d n b) := by
  unfold g_ref03_Append appD
  rw [ref_first d n n hd hn hn, Option.bind_some, errD_twice]
  by_cases he : errD d [n] = 0
  rotate_left
  · have e : (errD d [n] != 0) = true := by simpa using he
    rw [e, cond_true, if_pos he]
  have hR := errD_right he
  have h64 := hR.len
  have hu := hR.used
  have hr1 := hR.room1
  have hf := hR.fuse
  rw [he, if_neg (by simp)]
  rw [show ((0 : Int) != 0) = false from rfl, cond_false, ref_Find d n hR.srt (by omega), Option.bind_some]
  have e0 : (bif (decide ((bif (getF d.1 n).isSome then (rankF d.1 n : Int) else -1) ≥ 0)) then ((getI d.1 (bif (getF d.1 n).isSome then (rankF d.1 n : Int) else -1))).bind (fun (v3 : FileQ) =>
      some v3)
    else some (n, ([], (0, ())))) = some (n, (fileOf d.1 n).2) := by
    cases hg : getF d.1 n with
    | none =>
      unfold fileOf
      rw [hg]
      rfl
    | some g =>
      have hat := getF_at hR.srt hg
      rw [show (some g).isSome = true from rfl, cond_true, decide_eq_true (show (rankF d.1 n : Int) ≥ 0 by omega), cond_true, getI_nat, hat, Option.bind_some]
      unfold fileOf
      rw [hg, ← getF_name hg]
      rfl
  dsimp only
  rw [e0, Option.bind_some, used_same, disk_Used d (by omega) (by unfold maxLen; omega), Option.bind_some, wrap_i64_in (by omega) (by omega)]
  have e1 : ((decide ((usedF d.1 : Int) + (b.length : Int) > d.2.1)) || ((decide ((bif (getF d.1 n).isSome then (rankF d.1 n : Int) else -1) < 0)) && (decide ((d.1.length : Int) ≥ 64)))) = decide (d.2.1 < usedF d.1 + b.length ∨ (getF d.1 n = none ∧ d.1.length = 64)) := by
    rw [Bool.decide_or, Bool.decide_and]
    congr 1
    congr 1
    · cases getF d.1 n with
      | none => rfl
      | some g => rw [show (some g).isSome = true from rfl, cond_true, rank_neg]; rfl
    · apply decide_eq_decide.2; omega
  rw [e1]
  by_cases c : d.2.1 < usedF d.1 + b.length ∨ (getF d.1 n = none ∧ d.1.length = 64)
  · rw [decide_eq_true c, cond_true, if_pos c]
  rw [decide_eq_false c, cond_false, if_neg c]
  have hfl : (fileOf d.1 n).2.1.length ≤ 65536 := by
    unfold fileOf
    cases hg : getF d.1 n with
    | none => simp
    | some g => exact hR.size (getF_mem hg)
  dsimp only
  rw [appX_ok (by simp; omega) (by simp [maxLen]; omega), Option.bind_some, List.nil_append, appX_ok (by omega) (by simp [maxLen]; omega), Option.bind_some]
  rw [ref_with d _ hR.srt (by omega), Option.bind_some]
  rw [ref_power (putF d.1 (n, ((fileOf d.1 n).2.1 ++ b, (fileOf d.1 n).2.2)), d.2) hf hw, Option.bind_some]
  unfold goD
  simp only
  by_cases c0 : d.2.2.1 = 0
  · rw [if_pos c0, if_pos c0]
    rfl
  · rw [if_neg c0, if_neg c0]
    rfl

theorem ref_Sync : g_ref03_Sync (d, (n, ())) = some (syncD d n) := by
  unfold g_ref03_Sync syncD onD
  rw [ref_first d n n hd hn hn, Option.bind_some, errD_twice]
  by_cases he : errD d [n] = 0
  rotate_left
  · have e : (errD d [n] != 0) = true := by simpa using he
    rw [e, cond_true, if_pos he]
  have hR := errD_right he
  have h64 := hR.len
  rw [he, if_neg (by simp)]
  rw [show ((0 : Int) != 0) = false from rfl, cond_false, ref_Find d n hR.srt (by omega), Option.bind_some]
  cases hg : getF d.1 n with
  | none => rfl
  | some f =>
    have hat := getF_at hR.srt hg
    rw [show (some f).isSome = true from rfl, cond_true, rank_neg, cond_false]
    have := power_end (d := d) hR.fuse hw (K := fun v => ((getI v.1 (rankF d.1 n : Int))).bind (fun (v4 : FileQ) => ((g_ref03_with (v, ((v4.1, (v4.2.1, ((v4.2.1.length : Int), ()))), ()))))) ) (l := putF d.1 (f.1, (f.2.1, ((f.2.1.length : Int), ())))) ?_
    · rw [← this]
      congr 1
      funext v3
      cases v3.2.1 with
      | false => rfl
      | true =>
        simp only [Bool.not_true, cond_false]
        cases getI v3.1.1 (rankF d.1 n : Int) <;> rfl
    · intro e he
      rw [he, getI_nat, hat, Option.bind_some, ref_with e _ (by rw [he]; exact hR.srt) (by rw [he]; omega), he]

theorem ref_Remove : g_ref03_Remove (d, (n, ())) = some (remD d n) := by
  unfold g_ref03_Remove remD onD
  rw [ref_first d n n hd hn hn, Option.bind_some, errD_twice]
  by_cases he : errD d [n] = 0
  rotate_left
  · have e : (errD d [n] != 0) = true := by simpa using he
    rw [e, cond_true, if_pos he]
  have hR := errD_right he
  have h64 := hR.len
  rw [he, if_neg (by simp)]
  rw [show ((0 : Int) != 0) = false from rfl, cond_false, ref_Find d n hR.srt (by omega), Option.bind_some]
  cases hg : getF d.1 n with
  | none => rfl
  | some f =>
    rw [show (some f).isSome = true from rfl, cond_true, rank_neg, cond_false]
    exact power_end (d := d) hR.fuse hw (K := fun v => g_ref03_without (v, (n, ()))) (l := delF d.1 n) fun e he => by
      rw [ref_without e n (by rw [he]; exact hR.srt) (by rw [he]; omega), he]

theorem ref_Cut (k : Int) : g_ref03_Cut (d, (n, (k, ()))) = some (cutD d n k) := by
  unfold g_ref03_Cut cutD onD
  rw [ref_first d n n hd hn hn, Option.bind_some, errD_twice]
  by_cases he : errD d [n] = 0
  rotate_left
  · have e : (errD d [n] != 0) = true := by simpa using he
    rw [e, cond_true, if_pos he]
  have hR := errD_right he
  have h64 := hR.len
  rw [he, if_neg (by simp)]
  rw [show ((0 : Int) != 0) = false from rfl, cond_false, ref_Find d n hR.srt (by omega), Option.bind_some]
  cases hg : getF d.1 n with
  | none => rfl
  | some f =>
    have hat := getF_at hR.srt hg
    rw [show (some f).isSome = true from rfl, cond_true, rank_neg, cond_false, getI_nat, hat, Option.bind_some]
    dsimp only
    by_cases c : k < 0 ∨ (f.2.1.length : Int) < k
    · rw [show ((decide (k < 0)) || (decide (k > (f.2.1.length : Int)))) = true by rw [← Bool.decide_or]; exact decide_eq_true c, cond_true, if_pos c]
    rw [show ((decide (k < 0)) || (decide (k > (f.2.1.length : Int)))) = false by rw [← Bool.decide_or]; exact decide_eq_false c, cond_false, if_neg c]
    have e : subI f.2.1 0 k = some (f.2.1.take k.toNat) := by
      have := subI_nat f.2.1 (a := 0) (b := k.toNat) (Nat.zero_le _) (by omega)
      rw [Int.toNat_of_nonneg (by omega)] at this
      simpa using this
    rw [e]
    have e2 : (bif (decide (f.2.2.1 > k)) then some (f.1, (f.2.1.take k.toNat, (k, ()))) else some (f.1, (f.2.1.take k.toNat, f.2.2))) = some (cutF f k) := by
      unfold cutF
      by_cases h : k < f.2.2.1
      · rw [decide_eq_true h, if_pos h]; rfl
      · rw [decide_eq_false (by omega), if_neg h]; rfl
    simp only [Option.bind_some]
    rw [e2]
    simp only [Option.bind_some]
    exact power_end (d := d) hR.fuse hw (K := fun v => g_ref03_with (v, (cutF f k, ()))) (l := putF d.1 (cutF f k)) fun e he => by
      rw [ref_with e _ (by rw [he]; exact hR.srt) (by rw [he]; omega), he]

omit hw in
theorem ref_Read : g_ref03_Read (d, (n, ())) = some (readD d n) := by
  unfold g_ref03_Read readD
  rw [ref_first d n n hd hn hn, Option.bind_some, errD_twice]
  by_cases he : errD d [n] = 0
  rotate_left
  · have e : (errD d [n] != 0) = true := by simpa using he
    rw [e, cond_true, if_pos he]
  have hR := errD_right he
  have h64 := hR.len
  rw [he, if_neg (by simp)]
  rw [show ((0 : Int) != 0) = false from rfl, cond_false, ref_Find d n hR.srt (by omega), Option.bind_some]
  cases hg : getF d.1 n with
  | none => rfl
  | some f =>
    have hat := getF_at hR.srt hg
    rw [show (some f).isSome = true from rfl, cond_true, rank_neg, cond_false, getI_nat, hat, Option.bind_some]
end

theorem ref_Rename {d : DiskQ} {a b : ByteArray} (hd : NamesOk d.1) (ha : a.size ≤ maxLen) (hb : b.size ≤ maxLen) (hw : d.2.2.1 < 9223372036854775808) : g_ref03_Rename (d, (a, (b, ()))) = some (renD d a b) := by
  unfold g_ref03_Rename renD onD
  rw [ref_first d a b hd ha hb, Option.bind_some]
  by_cases he : errD d [b, a] = 0
  rotate_left
  · have e : (errD d [b, a] != 0) = true := by simpa using he
    rw [e, cond_true, if_pos he]
  have hR := errD_right he
  have h64 := hR.len
  rw [he, if_neg (by simp)]
  rw [show ((0 : Int) != 0) = false from rfl, cond_false, ref_Find d a hR.srt (by omega), Option.bind_some]
  cases hg : getF d.1 a with
  | none => rfl
  | some f =>
    have hat := getF_at hR.srt hg
    have hl2 := delF_length hg
    rw [show (some f).isSome = true from rfl, cond_true, rank_neg, cond_false]
    have := power_end (d := d) hR.fuse hw (K := fun v => ((getI v.1 (rankF d.1 a : Int))).bind (fun (v4 : FileQ) => ((g_ref03_without (v, (a, ())))).bind (fun (v5 : DiskQ) => ((g_ref03_with (v5, ((b, v4.2), ()))))))) (l := putF (delF d.1 a) (b, f.2)) ?_
    · rw [← this]
      congr 1
      funext v3
      cases v3.2.1 with
      | false => rfl
      | true =>
        simp only [Bool.not_true, cond_false]
        cases getI v3.1.1 (rankF d.1 a : Int) with
        | none => rfl
        | some g =>
          simp only [Option.bind_some]
          cases g_ref03_without (v3.1, (a, ())) <;> rfl
    · intro e he
      rw [he, getI_nat, hat, Option.bind_some, ref_without e a (by rw [he]; exact hR.srt) (by rw [he]; omega), Option.bind_some, he]
      rw [ref_with _ _ (delF_srt hR.srt a) (by simp only; omega)]

theorem ref_Back {d : DiskQ} (hd : NamesOk d.1) (keep : List Int) (hk : keep.length ≤ 1000000) (fuse : Int) : g_ref03_Back (d, (keep, (fuse, ()))) = some (backD d keep fuse) := by
  unfold g_ref03_Back backD
  rw [ref_Right d hd, Option.bind_some]
  cases hr : rightB d with
  | false => simp
  | true =>
    have hR := (rightB_iff d).1 hr
    have h64 := hR.len
    by_cases hf : fuse < -1
    · rw [if_pos (.inr hf)]
      dsimp only
      rw [decide_eq_true hf]
      rfl
    · rw [if_neg (by simp [hf])]
      dsimp only
      rw [decide_eq_false hf]
      simp only [Bool.not_true, Bool.or_false, cond_false]
      rw [loop_over0 d.1 (fun i (b : List FileQ) => (b, ((i : Int), ()))) (fun _ _ => (backL keep 0 d.1, ())) (fun i b => b = (backL keep 0 d.1).take i) (b := []) ?_ ?_ (by simp) (by rfl)]
      · rfl
      · intro b hb
        subst hb
        simp only [ltI', cond_false]
        rw [List.take_of_length_le (by rw [backL_length]; omega)]
        rfl
      · intro i b hi hb
        subst hb
        left
        have hA : i < (backL keep 0 d.1).length := by rw [backL_length]; exact hi
        have htk : ((backL keep 0 d.1).take i).length = i := by rw [List.length_take]; omega
        have hmem : d.1[i] ∈ d.1 := List.getElem_mem hi
        have hb2 : (backL keep 0 d.1)[i] = leftF d.1[i] (keepAt keep i) := by
          have := backL_get keep d.1 0 i
          rw [List.getElem?_eq_getElem hA, List.getElem?_eq_getElem hi] at this
          simpa using this
        refine ⟨(backL keep 0 d.1).take (i + 1), ?_, rfl, rfl⟩
        simp only [ltI hi, cond_true, getI_at hi, Option.bind_some]
        rw [keepAt_run keep i (by omega) (by omega)]
        have hs := hR.sure _ hmem
        have hsz := hR.size hmem
        generalize d.1[i] = f at hb2 hs hsz
        generalize hkk : keepAt keep i = k at hb2
        have hk2 := keepI_in k hs.1 hs.2
        have e1 : (bif (decide (k < 0)) then some ((0 : Int), ()) else some (k, ())) = some (max k 0, ()) := by
          by_cases h : k < 0
          · rw [decide_eq_true h, Int.max_eq_right (by omega)]; rfl
          · rw [decide_eq_false h, Int.max_eq_left (by omega)]; rfl
        simp only
        rw [e1]
        simp only [Option.bind_some]
        rw [wrap_i64_in (n := (f.2.1.length : Int) - f.2.2.1) (by omega) (by omega)]
        have e2 : (bif (decide (max k 0 > (f.2.1.length : Int) - f.2.2.1)) then some ((f.2.1.length : Int) - f.2.2.1, ()) else some (max k 0, ())) = some (min (max k 0) ((f.2.1.length : Int) - f.2.2.1), ()) := by
          by_cases h : max k 0 > (f.2.1.length : Int) - f.2.2.1
          · rw [decide_eq_true h, Int.min_eq_right (by omega)]; rfl
          · rw [decide_eq_false h, Int.min_eq_left (by omega)]; rfl
        rw [e2]
        simp only [Option.bind_some]
        rw [show f.2.2.1 + min (max k 0) ((f.2.1.length : Int) - f.2.2.1) = keepI f k from rfl]
        rw [wrap_i64_in (n := keepI f k) (by omega) (by omega)]
        have e : subI f.2.1 0 (keepI f k) = some (f.2.1.take (keepI f k).toNat) := by
          have := subI_nat f.2.1 (a := 0) (b := (keepI f k).toNat) (Nat.zero_le _) (by omega)
          rw [Int.toNat_of_nonneg (by omega)] at this
          simpa using this
        rw [e, Option.bind_some, appX_ok (by rw [htk]; simp; omega) (by rw [htk]; simp [maxLen]; omega), Option.bind_some, wrap_succ (by omega)]
        congr 2
        rw [List.take_succ_eq_append_getElem hA, hb2]
        rfl

/-! ### The same -/
theorem ref_Same (d : DiskQ) (hl : d.1.length ≤ maxLen) : g_ref03_Same (d, (d, ())) = some true := by
  unfold g_ref03_Same
  have hm : maxLen = 9223372036854775807 := rfl
  have e : (((((d.1.length : Int) != (d.1.length : Int)) || (d.2.1 != d.2.1)) || (d.2.2.1 != d.2.2.1)) || (d.2.2.2.1 != d.2.2.2.1)) = false := by simp
  dsimp only
  rw [e, cond_false]
  rw [loop_over0 d.1 (fun i (b : Unit) => ((i : Int), ())) (fun _ _ => (.inl () : Unit ⊕ Bool)) (fun _ _ => True) (b := ()) ?_ ?_ trivial (by rfl)]
  · rfl
  · intro b _
    simp only [ltI', cond_false]
    rfl
  · intro i b hi _
    left
    simp only [ltI hi, cond_true, getI_at hi, Option.bind_some]
    refine ⟨(), ?_, trivial, trivial⟩
    simp only [decide_true, Bool.not_true, Bool.false_or, bne_self_eq_false, cond_false, Option.bind_some]
    rw [wrap_succ (by omega)]
end Go.AI
