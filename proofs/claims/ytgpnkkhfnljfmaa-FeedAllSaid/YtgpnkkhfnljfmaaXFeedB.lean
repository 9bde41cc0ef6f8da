/- feed: a note comes: on both sides. -/
import Derived.Test.YtgpnkkhfnljfmaaXFeedA
namespace Go.AI
open IntKind

/-- How many are in a row from a number on. -/
def rowN : List NoteT → Int → Nat
  | [], _ => 0
  | h :: l, s => if h.1 = s then rowN l (s + 1) + 1 else 0
theorem rowN_le : ∀ (l : List NoteT) (s : Int), rowN l s ≤ l.length
  | [], _ => Nat.le_refl _
  | h :: l, s => by
    unfold rowN
    split
    · have := rowN_le l (s + 1); simp; omega
    · omega
def rF (i0 : Nat) : List NoteT → Int → Unit ⊕ Int
  | [], _ => .inl ()
  | h :: l, s => if h.1 = s then rF (i0 + 1) l (s + 1) else .inr (i0 : Int)
theorem rF_end (n : Nat) : ∀ (l : List NoteT) (s : Int) (i : Nat), i + l.length = n → eX (fun _ => some (n : Int)) (rF i l s) = some ((i + rowN l s : Nat) : Int)
  | [], s, i, h => by simp at h; subst h; rfl
  | h :: l, s, i, hn => by
    unfold rF rowN
    by_cases c : h.1 = s
    · rw [if_pos c, if_pos c, rF_end n l (s + 1) (i + 1) (by simp at hn; omega)]
      congr 2
      omega
    · rw [if_neg c, if_neg c]
      rfl

theorem feed_row (l : List NoteT) (s : Int) (hl : l.length ≤ 1000) (h0 : 0 ≤ s) (h1 : s ≤ 2000000000) : g_feed_row (l, (s, ())) = some ((rowN l s : Nat) : Int) := by
  unfold g_feed_row
  rw [loop_over0 l (fun i (b : Unit) => ((i : Int), ())) (fun m _ => rF (l.length - m.length) m (s + ((l.length - m.length : Nat) : Int))) (fun _ _ => True) (b := ()) ?_ ?_ trivial (by rfl)]
  · rw [Option.bind_some, Nat.sub_self]
    simp only [Int.natCast_zero, Int.add_zero]
    rw [rF_end l.length l s 0 (by omega)]
    simp
  · intro b _
    simp only [ltI', cond_false]
    rfl
  · intro i b hi _
    simp only [ltI hi, cond_true, getI_at hi, Option.bind_some]
    have e1 : l.length - (l.drop i).length = i := by rw [List.length_drop]; omega
    have e2 : l.length - (l.drop (i + 1)).length = i + 1 := by rw [List.length_drop]; omega
    rw [e1, e2, drop_at hi, wrap_i64_in (n := s + (i : Int)) (by omega) (by omega)]
    generalize l[i] = h
    by_cases c : h.1 = s + (i : Int)
    · left
      have : (h.1 != s + (i : Int)) = false := by simp [c]
      refine ⟨(), ?_, trivial, ?_⟩
      · simp only [this, cond_false, wrap_succ (n := i) (by omega)]
      · conv => lhs; unfold rF
        rw [if_pos c, Int.add_assoc]
        rfl
    · right
      have : (h.1 != s + (i : Int)) = true := by simp [c]
      simp only [this, cond_true]
      unfold rF
      rw [if_neg c]
      rfl

/-- In order. -/
theorem held_get {nx : Int} : ∀ {l : List NoteT} {p : Int}, heldP nx p l → ∀ i (hi : i < l.length), p < (l[i]).1 ∧ (l[i]).1 ≤ nx + 8 ∧ ∀ j (hj : j < l.length), i < j → (l[i]).1 < (l[j]).1
  | [], _, _, i, hi => absurd hi (by simp)
  | h :: l, p, hh, i, hi => by
    obtain ⟨h1, h2, h3⟩ := hh
    cases i with
    | zero =>
      refine ⟨h1, h2, fun j hj hij => ?_⟩
      obtain ⟨k, rfl⟩ : ∃ k, j = k + 1 := ⟨j - 1, by omega⟩
      exact (held_get h3 k (by simpa using hj)).1
    | succ i =>
      have hi' : i < l.length := by simpa using hi
      obtain ⟨q1, q2, q3⟩ := held_get h3 i hi'
      refine ⟨by simp only [List.getElem_cons_succ]; omega, q2, fun j hj hij => ?_⟩
      obtain ⟨k, rfl⟩ : ∃ k, j = k + 1 := ⟨j - 1, by omega⟩
      exact q3 k (by simpa using hj) (by omega)

/-- Where a number is, or would be. -/
theorem feed_place (l : List NoteT) (s nx : Int) (hl : l.length ≤ 1000) (hn : 1 ≤ nx ∧ nx ≤ 1000000001) (hh : heldP nx nx l) (hs : 1 ≤ s ∧ s ≤ 1000000000) :
    ∃ i : Nat, i ≤ l.length ∧ (∀ k (hk : k < l.length), k < i → (l[k]).1 < s) ∧ (∀ k (hk : k < l.length), i ≤ k → s ≤ (l[k]).1) ∧ g_feed_place (l, (s, ())) = some ((i : Int), (if h : i < l.length then decide ((l[i]).1 = s) else false, ())) := by
  unfold g_feed_place
  have key := loop_meas (step := fun (v1 : (Int × (Int × Unit))) =>
   bif (decide (v1.1 < v1.2.1)) then ((getI l (IntKind.wrap .i64 (Int.fdiv (IntKind.wrap .u64 (IntKind.wrap .i64 (v1.1 + v1.2.1))) (2 ^ 1))))).bind (fun (v2 : NoteT) =>
     (
      bif (decide ((IntKind.wrap .i64 (v2.1 - s)) < 0)) then some ((IntKind.wrap .i64 ((IntKind.wrap .i64 (Int.fdiv (IntKind.wrap .u64 (IntKind.wrap .i64 (v1.1 + v1.2.1))) (2 ^ 1))) + 1)), v1.2)
      else some (v1.1, ((IntKind.wrap .i64 (Int.fdiv (IntKind.wrap .u64 (IntKind.wrap .i64 (v1.1 + v1.2.1))) (2 ^ 1))), ()))).bind (fun (v3 : (Int × (Int × Unit))) =>
      some (.inl v3)))
   else (some (v1.1, ())).map .inr) (fun (p : Nat × Nat) => ((p.1 : Int), ((p.2 : Int), ())))
    (fun p => p.1 ≤ p.2 ∧ p.2 ≤ l.length ∧ (∀ k (hk : k < l.length), k < p.1 → (l[k]).1 < s) ∧ (∀ k (hk : k < l.length), p.2 ≤ k → s ≤ (l[k]).1))
    (fun (o : Int × Unit) => ∃ i : Nat, o = ((i : Int), ()) ∧ i ≤ l.length ∧ (∀ k (hk : k < l.length), k < i → (l[k]).1 < s) ∧ (∀ k (hk : k < l.length), i ≤ k → s ≤ (l[k]).1))
    (fun p => p.2 - p.1) (fun p hp => by
      obtain ⟨lo, hi⟩ := p
      obtain ⟨h1, h2, h3, h4⟩ := hp
      simp only at h1 h2 h3 h4 ⊢
      by_cases c : lo < hi
      · left
        have em : IntKind.wrap .i64 (Int.fdiv (IntKind.wrap .u64 (IntKind.wrap .i64 ((lo : Int) + (hi : Int)))) (2 ^ 1)) = (((lo + hi) / 2 : Nat) : Int) := by
          rw [wrap_i64_in (n := (lo : Int) + (hi : Int)) (by omega) (by omega), IntKind.wrap_u64]
          have e1 : (lo : Int) + (hi : Int) = ((lo + hi : Nat) : Int) := by omega
          have e2 : ((lo + hi : Nat) : Int) % 18446744073709551616 = ((lo + hi : Nat) : Int) := by omega
          rw [e1, e2, Int.fdiv_eq_ediv_of_nonneg _ (by omega), wrap_i64_in (by omega) (by omega)]
          omega
        have hm : (lo + hi) / 2 < l.length := by omega
        have hg := held_get hh _ hm
        have ew : IntKind.wrap .i64 ((l[(lo + hi) / 2]).1 - s) = (l[(lo + hi) / 2]).1 - s := wrap_i64_in (by omega) (by omega)
        simp only [em, decide_eq_true (show (lo : Int) < (hi : Int) by omega), cond_true, getI_at hm, Option.bind_some, ew]
        by_cases cc : (l[(lo + hi) / 2]).1 < s
        · refine ⟨((lo + hi) / 2 + 1, hi), ?_, ⟨by simp only; omega, h2, ?_, h4⟩, by simp only; omega⟩
          · simp only [decide_eq_true (show (l[(lo + hi) / 2]).1 - s < 0 by omega), cond_true, Option.bind_some, wrap_succ (n := (lo + hi) / 2) (by omega)]
          · intro k hk hkl
            simp only at hkl
            rcases Nat.lt_or_ge k ((lo + hi) / 2) with h | h
            · have := (held_get hh k hk).2.2 _ hm h; omega
            · have : k = (lo + hi) / 2 := by omega
              subst this; exact cc
        · refine ⟨(lo, (lo + hi) / 2), ?_, ⟨by simp only; omega, by simp only; omega, h3, ?_⟩, by simp only; omega⟩
          · simp only [decide_eq_false (show ¬ (l[(lo + hi) / 2]).1 - s < 0 by omega), cond_false, Option.bind_some]
          · intro k hk hkl
            simp only at hkl
            rcases Nat.lt_or_ge ((lo + hi) / 2) k with h | h
            · have := (hg.2.2 k hk h); omega
            · have : k = (lo + hi) / 2 := by omega
              subst this; omega
      · right
        have : lo = hi := by omega
        subst this
        refine ⟨((lo : Int), ()), ?_, lo, rfl, h2, h3, h4⟩
        simp only [ltI', cond_false]
        rfl) (x := (0, l.length)) ⟨Nat.zero_le _, Nat.le_refl _, fun k _ h => absurd h (by simp), fun k hk h => absurd hk (by simp at h; omega)⟩
  obtain ⟨o, k1, i, rfl, k2, k3, k4⟩ := key
  refine ⟨i, k2, k3, k4, ?_⟩
  simp only [Int.natCast_zero] at k1
  rw [k1, Option.bind_some]
  by_cases c : i < l.length
  · have ew : IntKind.wrap .i64 ((l[i]).1 - s) = (l[i]).1 - s := by have := held_get hh i c; exact wrap_i64_in (by omega) (by omega)
    simp only [decide_eq_true (show (i : Int) < (l.length : Int) by omega), cond_true, getI_at c, Option.bind_some, ew, dif_pos c]
    congr 3
    rw [Bool.eq_iff_iff, beq_iff_eq, decide_eq_true_iff]
    omega
  · simp only [decide_eq_false (show ¬ (i : Int) < (l.length : Int) by omega), cond_false, dif_neg c]
end Go.AI
