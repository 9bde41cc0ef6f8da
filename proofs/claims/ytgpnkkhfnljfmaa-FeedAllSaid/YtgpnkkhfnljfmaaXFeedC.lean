/- feed: what a note comes to: on both sides. -/
import Derived.Test.YtgpnkkhfnljfmaaXFeedB
namespace Go.AI
open IntKind

def putF (n : NoteT) : List NoteT → List NoteT
  | [] => [n]
  | h :: l => if h.1 = n.1 then h :: l else if n.1 < h.1 then n :: h :: l else h :: putF n l
def comeF (f : FeedT) (n : NoteT) (nx : Int) : FeedT × ((List NoteT) × (Int × Unit)) :=
  if ¬ rightP f nx ∨ n.1 < 1 ∨ n.1 > 1000000000 then (f, ([], (1, ())))
  else if n.1 < nx then (f, ([], (0, ())))
  else if n.1 > nx + 8 then ((f.1, (true, ())), ([], (0, ())))
  else if n.1 = nx then ((f.1.drop (rowN f.1 (nx + 1)), f.2), (n :: f.1.take (rowN f.1 (nx + 1)), (0, ())))
  else ((putF n f.1, f.2), ([], (0, ())))

theorem putF_at (n : NoteT) : ∀ (l : List NoteT) (i : Nat), i ≤ l.length → (∀ k (hk : k < l.length), k < i → (l[k]).1 < n.1) → (∀ k (hk : k < l.length), i ≤ k → n.1 ≤ (l[k]).1) →
    putF n l = if h : i < l.length then (if (l[i]).1 = n.1 then l else l.take i ++ [n] ++ l.drop i) else l.take i ++ [n] ++ l.drop i
  | [], i, hi, _, _ => by
    have : i = 0 := by simpa using hi
    subst this; rfl
  | h :: l, 0, _, _, h2 => by
    rw [dif_pos (by simp)]
    have := h2 0 (by simp) (Nat.le_refl _)
    simp only [List.getElem_cons_zero] at this ⊢
    unfold putF
    by_cases c : h.1 = n.1
    · rw [if_pos c, if_pos c]
    · rw [if_neg c, if_neg c, if_pos (by omega)]
      rfl
  | h :: l, i + 1, hi, h1, h2 => by
    have q := h1 0 (by simp) (by omega)
    simp only [List.getElem_cons_zero] at q
    have ih := putF_at n l i (by simpa using hi) (fun k hk hki => h1 (k + 1) (Nat.succ_lt_succ hk) (by omega)) (fun k hk hki => h2 (k + 1) (Nat.succ_lt_succ hk) (by omega))
    unfold putF
    rw [if_neg (by omega), if_neg (by omega), ih]
    by_cases c : i < l.length
    · rw [dif_pos c, dif_pos (by simpa using c)]
      simp only [List.getElem_cons_succ]
      split <;> simp
    · rw [dif_neg c, dif_neg (by simpa using c)]
      simp

theorem small8 {n : Nat} (h : n ≤ 20) : n * 40 ≤ 140737488355328 ∧ n ≤ maxLen := by unfold maxLen; omega

theorem feed_Come (f : FeedT) (n : NoteT) (nx : Int) : g_feed_Come (f, (n, (nx, ()))) = some (comeF f n nx) := by
  unfold g_feed_Come comeF
  simp only [feed_Right, Option.bind_some]
  by_cases c : rightP f nx ∧ 1 ≤ n.1 ∧ n.1 ≤ 1000000000
  rotate_left
  · have e : ((bif (!(decide (rightP f nx))) then some ((!(decide (rightP f nx))), ()) else (bif (decide (n.1 < 1)) then some ((decide (n.1 < 1)), ()) else some ((decide (n.1 > 1000000000)), ())).bind (fun (v2 : (Bool × Unit)) => some v2)) : Option (Bool × Unit)) = some (true, ()) := by
      by_cases c1 : rightP f nx
      · by_cases c2 : n.1 < 1
        · simp [c1, c2]
        · have : n.1 > 1000000000 := by
            by_cases h : n.1 > 1000000000
            · exact h
            · exact absurd ⟨c1, by omega, by omega⟩ c
          simp [c1, c2, this]
      · simp [c1]
    rw [e, if_pos (by by_cases c1 : rightP f nx; (right; by_cases h : n.1 < 1; exact .inl h; exact .inr (by by_cases h2 : n.1 > 1000000000; exact h2; exact absurd ⟨c1, by omega, by omega⟩ c)); exact .inl c1)]
    rfl
  obtain ⟨c1, c2, c3⟩ := c
  obtain ⟨d1, d2, d3, d4⟩ := id c1
  have e : ((bif (!(decide (rightP f nx))) then some ((!(decide (rightP f nx))), ()) else (bif (decide (n.1 < 1)) then some ((decide (n.1 < 1)), ()) else some ((decide (n.1 > 1000000000)), ())).bind (fun (v2 : (Bool × Unit)) => some v2)) : Option (Bool × Unit)) = some (false, ()) := by
    have h2 : ¬ n.1 < 1 := by omega
    have h3 : ¬ n.1 > 1000000000 := by omega
    simp [c1, h2, h3]
  rw [e, if_neg (by intro h; rcases h with h | h | h; exact h c1; omega; omega)]
  simp only [Option.bind_some, cond_false, wrap_i64_in (n := nx + 8) (by omega) (by omega), wrap_i64_in (n := nx + 1) (by omega) (by omega)]
  by_cases b1 : n.1 < nx
  · simp [b1]
  rw [decide_eq_false b1, if_neg b1]
  by_cases b2 : n.1 > nx + 8
  · simp [b2]
  rw [decide_eq_false b2, if_neg b2]
  by_cases b3 : n.1 = nx
  · have hk := rowN_le f.1 (nx + 1)
    have g1 := small8 (n := 1) (by omega)
    have e1 : appX ([] : List NoteT) (n :: []) 40 = some [n] := appX_ok (by simp) (by simp [maxLen])
    have e2 : subI f.1 0 ((rowN f.1 (nx + 1) : Nat) : Int) = some (f.1.take (rowN f.1 (nx + 1))) := by
      have := subI_nat f.1 (a := 0) (b := rowN f.1 (nx + 1)) (by omega) hk
      simpa using this
    have e3 : appX [n] (f.1.take (rowN f.1 (nx + 1))) 40 = some ([n] ++ f.1.take (rowN f.1 (nx + 1))) := by
      have := small8 (n := [n].length + (f.1.take (rowN f.1 (nx + 1))).length) (by simp; omega)
      exact appX_ok this.1 this.2
    have e4 : subI f.1 ((rowN f.1 (nx + 1) : Nat) : Int) (f.1.length : Int) = some (f.1.drop (rowN f.1 (nx + 1))) := by
      have := subI_nat f.1 (a := rowN f.1 (nx + 1)) (b := f.1.length) hk (Nat.le_refl _)
      rwa [List.take_length] at this
    have e5 : appX ([] : List NoteT) (f.1.drop (rowN f.1 (nx + 1))) 40 = some (f.1.drop (rowN f.1 (nx + 1))) := by
      have := small8 (n := ([] : List NoteT).length + (f.1.drop (rowN f.1 (nx + 1))).length) (by simp; omega)
      have := appX_ok this.1 this.2
      simpa using this
    rw [if_pos b3]
    simp only [cond_false, b3, beq_self_eq_true, cond_true, feed_row f.1 (nx + 1) (by omega) (by omega) (by omega), Option.bind_some, e1, e2, e3, e4, e5]
    rfl
  · have hb : (n.1 == nx) = false := by simp [b3]
    obtain ⟨i, hi, h1, h2, hp⟩ := feed_place f.1 n.1 nx (by omega) ⟨d1, d2⟩ d4 ⟨c2, c3⟩
    rw [if_neg b3]
    simp only [cond_false, hb, hp, Option.bind_some]
    rw [putF_at n f.1 i hi h1 h2]
    have e1 : appX ([] : List NoteT) f.1 40 = some f.1 := by
      have := small8 (n := ([] : List NoteT).length + f.1.length) (by simp; omega)
      have := appX_ok this.1 this.2
      simpa using this
    have e2 : insX f.1 (i : Int) (n :: []) 40 = some (f.1.take i ++ [n] ++ f.1.drop i) := by
      unfold insX
      rw [if_pos ⟨by simp, by omega, by omega, by simp; omega, by simp [maxLen]; omega⟩]
      rfl
    by_cases cc : i < f.1.length
    · rw [dif_pos cc, dif_pos cc]
      by_cases ce : (f.1[i]).1 = n.1
      · rw [if_pos ce, decide_eq_true ce]
        rfl
      · rw [if_neg ce, decide_eq_false ce]
        simp only [Bool.not_false, cond_true, e1, Option.bind_some, e2]
    · rw [dif_neg cc, dif_neg cc]
      simp only [Bool.not_false, cond_true, e1, Option.bind_some, e2]

/-! ### The reference -/
def cF (nx : Int) : List NoteT → (List NoteT × List NoteT) → List NoteT × (List NoteT × Unit)
  | [], b => (b.1, (b.2, ()))
  | h :: l, b => if b.2 = [] ∧ h.1 = nx + (b.1.length : Int) then cF nx l (b.1 ++ [h], b.2) else cF nx l (b.1, b.2 ++ [h])
theorem cF_left (nx : Int) : ∀ (l r lf : List NoteT), lf ≠ [] → cF nx l (r, lf) = (r, (lf ++ l, ()))
  | [], r, lf, _ => by simp [cF]
  | h :: l, r, lf, h0 => by
    unfold cF
    rw [if_neg (fun h => h0 h.1), cF_left nx l r (lf ++ [h]) (by simp)]
    simp
theorem cF_row (nx : Int) : ∀ (l r : List NoteT), cF nx l (r, []) = (r ++ l.take (rowN l (nx + (r.length : Int))), (l.drop (rowN l (nx + (r.length : Int))), ()))
  | [], r => by simp [cF, rowN]
  | h :: l, r => by
    unfold cF rowN
    by_cases c : h.1 = nx + (r.length : Int)
    · rw [if_pos ⟨rfl, c⟩, if_pos c, cF_row nx l (r ++ [h])]
      have : nx + ((r ++ [h]).length : Int) = nx + (r.length : Int) + 1 := by simp; omega
      rw [this]
      simp
    · rw [if_neg (fun h => c h.2), if_neg c, cF_left nx l r ([] ++ [h]) (by simp)]
      simp

def pF (n : NoteT) : List NoteT → (List NoteT × Bool) → List NoteT × (Bool × Unit)
  | [], b => (b.1, (b.2, ()))
  | h :: l, b => if h.1 = n.1 ∨ b.2 = true then pF n l (b.1 ++ [h], true) else if n.1 < h.1 then pF n l (b.1 ++ [n] ++ [h], true) else pF n l (b.1 ++ [h], false)
theorem pF_true (n : NoteT) : ∀ (l lf : List NoteT), pF n l (lf, true) = (lf ++ l, (true, ()))
  | [], lf => by simp [pF]
  | h :: l, lf => by
    unfold pF
    rw [if_pos (.inr rfl), pF_true n l]
    simp
def pE (n : NoteT) (x : List NoteT × (Bool × Unit)) : List NoteT := if x.2.1 = true then x.1 else x.1 ++ [n]
theorem pF_end (n : NoteT) : ∀ (l lf : List NoteT), pE n (pF n l (lf, false)) = lf ++ putF n l
  | [], lf => rfl
  | h :: l, lf => by
    unfold pF putF
    by_cases c : h.1 = n.1
    · rw [if_pos (.inl c), if_pos c, pF_true]
      simp [pE]
    · rw [if_neg (by simp [c]), if_neg c]
      by_cases c2 : n.1 < h.1
      · rw [if_pos c2, if_pos c2, pF_true]
        simp [pE]
      · rw [if_neg c2, if_neg c2]
        have := pF_end n l (lf ++ [h])
        simp only at this ⊢
        rw [this]
        simp
theorem pF_len (n : NoteT) : ∀ (l lf : List NoteT) (b : Bool), (pF n l (lf, b)).1.length ≤ lf.length + 2 * l.length
  | [], lf, b => by simp [pF]
  | h :: l, lf, b => by
    unfold pF
    simp only
    split
    · have := pF_len n l (lf ++ [h]) true; simp at this ⊢; omega
    · split
      · have := pF_len n l (lf ++ [n] ++ [h]) true; simp at this ⊢; omega
      · have := pF_len n l (lf ++ [h]) false; simp at this ⊢; omega

theorem app40 {l ys : List NoteT} (h : l.length + ys.length ≤ 20) : appX l ys 40 = some (l ++ ys) := appX_ok (small8 h).1 (small8 h).2

theorem ref_Come (f : FeedT) (n : NoteT) (nx : Int) (hr : ∀ h ∈ f.1, h.1 < 9223372036854775808) : g_ref17_Come (f, (n, (nx, ()))) = some (comeF f n nx) := by
  unfold g_ref17_Come comeF
  simp only [ref_Right f nx hr, Option.bind_some]
  by_cases c : rightP f nx ∧ 1 ≤ n.1 ∧ n.1 ≤ 1000000000
  rotate_left
  · have e : ((!(decide (rightP f nx)) || decide (n.1 < 1)) || decide (n.1 > 1000000000)) = true := by
      by_cases c1 : rightP f nx
      · by_cases c2 : n.1 < 1
        · simp [c1, c2]
        · have : n.1 > 1000000000 := by
            by_cases h : n.1 > 1000000000
            · exact h
            · exact absurd ⟨c1, by omega, by omega⟩ c
          simp [c1, c2, this]
      · simp [c1]
    rw [e, if_pos (by by_cases c1 : rightP f nx; (right; by_cases h : n.1 < 1; exact .inl h; exact .inr (by by_cases h2 : n.1 > 1000000000; exact h2; exact absurd ⟨c1, by omega, by omega⟩ c)); exact .inl c1)]
    rfl
  obtain ⟨c1, c2, c3⟩ := c
  obtain ⟨d1, d2, d3, d4⟩ := id c1
  have e : ((!(decide (rightP f nx)) || decide (n.1 < 1)) || decide (n.1 > 1000000000)) = false := by
    have h2 : ¬ n.1 < 1 := by omega
    have h3 : ¬ n.1 > 1000000000 := by omega
    simp [c1, h2, h3]
  rw [e, if_neg (by intro h; rcases h with h | h | h; exact h c1; omega; omega)]
  simp only [cond_false]
  by_cases b1 : n.1 < nx
  · simp [b1]
  rw [decide_eq_false b1, if_neg b1, wrap_i64_in (n := n.1 - nx) (by omega) (by omega)]
  by_cases b2 : n.1 > nx + 8
  · rw [if_pos b2, decide_eq_true (show n.1 - nx > 8 by omega)]
    rfl
  rw [decide_eq_false (show ¬ n.1 - nx > 8 by omega), if_neg b2]
  by_cases b3 : n.1 = nx
  · rw [if_pos b3]
    have e1 : appX ([] : List NoteT) (n :: []) 40 = some [n] := app40 (by simp)
    simp only [cond_false, b3, beq_self_eq_true, cond_true, e1, Option.bind_some]
    rw [loop_over0 f.1 (fun i (b : List NoteT × List NoteT) => (b.1, (b.2, ((i : Int), ())))) (fun l b => cF nx l b) (fun i b => b.1.length + b.2.length = i + 1 ∧ 1 ≤ b.1.length) (b := ([n], [])) ?_ ?_ ⟨by simp, by simp⟩ (by rfl)]
    · rw [cF_row]
      simp
    · intro b _
      simp only [ltI', cond_false]
      rfl
    · intro i b hi hb
      left
      simp only [ltI hi, cond_true, getI_at hi, Option.bind_some]
      rw [drop_at hi]
      generalize f.1[i] = h
      have hw : IntKind.wrap .i64 (nx + (b.1.length : Int)) = nx + (b.1.length : Int) := wrap_i64_in (by omega) (by omega)
      have e2 : (bif ((b.2.length : Int) == 0) then some (h.1 == IntKind.wrap .i64 (nx + (b.1.length : Int))) else some false) = some (decide (b.2 = [] ∧ h.1 = nx + (b.1.length : Int))) := by
        rw [hw]
        cases hb2 : b.2 with
        | nil => simp; rw [Bool.eq_iff_iff, beq_iff_eq, decide_eq_true_iff]
        | cons x y =>
          have : (((x :: y).length : Int) == 0) = false := by simp; omega
          rw [this]
          simp
      simp only [e2, Option.bind_some]
      have q1 : appX b.1 (h :: []) 40 = some (b.1 ++ [h]) := app40 (by simp; omega)
      have q2 : appX b.2 (h :: []) 40 = some (b.2 ++ [h]) := app40 (by simp; omega)
      by_cases cc : b.2 = [] ∧ h.1 = nx + (b.1.length : Int)
      · refine ⟨(b.1 ++ [h], b.2), ?_, ?_, ?_⟩
        · simp only [decide_eq_true cc, cond_true, q1, Option.bind_some, wrap_succ (n := i) (by omega)]
        · simp; omega
        · conv => lhs; unfold cF
          rw [if_pos cc]
      · refine ⟨(b.1, b.2 ++ [h]), ?_, ?_, ?_⟩
        · simp only [decide_eq_false cc, cond_false, q2, Option.bind_some, wrap_succ (n := i) (by omega)]
        · simp; omega
        · conv => lhs; unfold cF
          rw [if_neg cc]
  · rw [if_neg b3]
    have hb : (n.1 == nx) = false := by simp [b3]
    simp only [cond_false, hb]
    rw [loop_over0 f.1 (fun i (b : List NoteT × Bool) => (b.1, (b.2, ((i : Int), ())))) (fun l b => pF n l b) (fun i b => b.1.length ≤ 2 * i) (b := ([], false)) ?_ ?_ (by simp) (by rfl)]
    · have hl := pF_len n f.1 [] false
      have he := pF_end n f.1 []
      simp only [Option.bind_some]
      rw [List.nil_append] at he
      unfold pE at he
      cases hq : (pF n f.1 ([], false)).2.1
      · rw [hq] at he
        simp only [Bool.not_false, cond_true]
        rw [app40 (by simp at hl ⊢; omega)]
        simp only [Option.bind_some]
        rw [← he]
        rfl
      · rw [hq] at he
        simp only [Bool.not_true, cond_false, Option.bind_some]
        rw [← he]
        rfl
    · intro b _
      simp only [ltI', cond_false]
      rfl
    · intro i b hi hb2
      left
      simp only [ltI hi, cond_true, getI_at hi, Option.bind_some]
      rw [drop_at hi]
      generalize f.1[i] = h
      have e2 : (bif (h.1 == n.1) then some (true, ()) else some (b.2, ())) = some (decide (h.1 = n.1 ∨ b.2 = true), ()) := by
        by_cases ch : h.1 = n.1
        · simp [ch]
        · have : (h.1 == n.1) = false := by simp [ch]
          rw [this]
          simp [ch]
      simp only [e2, Option.bind_some]
      have q1 : appX b.1 (n :: []) 40 = some (b.1 ++ [n]) := app40 (by simp; omega)
      have q2 : appX (b.1 ++ [n]) (h :: []) 40 = some (b.1 ++ [n] ++ [h]) := app40 (by simp; omega)
      have q3 : appX b.1 (h :: []) 40 = some (b.1 ++ [h]) := app40 (by simp; omega)
      by_cases cc : h.1 = n.1 ∨ b.2 = true
      · refine ⟨(b.1 ++ [h], true), ?_, ?_, ?_⟩
        · simp only [decide_eq_true cc, Bool.not_true, Bool.and_false, cond_false, q3, Option.bind_some, wrap_succ (n := i) (by omega)]
        · simp; omega
        · conv => lhs; unfold pF
          rw [if_pos cc]
      · by_cases c4 : n.1 < h.1
        · refine ⟨(b.1 ++ [n] ++ [h], true), ?_, ?_, ?_⟩
          · simp only [decide_eq_false cc, Bool.not_false, Bool.and_true, decide_eq_true (show h.1 > n.1 from c4), cond_true, q1, Option.bind_some, q2, wrap_succ (n := i) (by omega)]
          · simp; omega
          · conv => lhs; unfold pF
            rw [if_neg cc, if_pos c4]
        · refine ⟨(b.1 ++ [h], false), ?_, ?_, ?_⟩
          · simp only [decide_eq_false cc, Bool.not_false, Bool.and_true, decide_eq_false (show ¬ h.1 > n.1 from c4), cond_false, q3, Option.bind_some, wrap_succ (n := i) (by omega)]
          · simp; omega
          · conv => lhs; unfold pF
            rw [if_neg cc, if_neg c4]
end Go.AI
