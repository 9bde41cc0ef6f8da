/- feed: where each note comes, all are ready in the end. -/
import Derived.Test.YtgpnkkhfnljfmaaXFeedE
namespace Go.AI
open IntKind

theorem row_mem : ∀ {l : List NoteT} {s : Int} (t : Int), (∃ h ∈ l, h.1 = t) ↔ ((s ≤ t ∧ t < s + (rowN l s : Int)) ∨ ∃ h ∈ l.drop (rowN l s), h.1 = t)
  | [], s, t => by simp [rowN] <;> omega
  | h :: l, s, t => by
    unfold rowN
    by_cases e : h.1 = s
    · rw [if_pos e]
      simp only [List.drop_succ_cons]
      have ih := row_mem (l := l) (s := s + 1) t
      constructor
      · rintro ⟨x, hx, rfl⟩
        rcases List.mem_cons.1 hx with rfl | hx
        · left; omega
        · rcases ih.1 ⟨x, hx, rfl⟩ with h1 | h1
          · left; omega
          · exact .inr h1
      · rintro (h1 | h1)
        · by_cases e2 : t = s
          · exact ⟨h, List.mem_cons_self .., by omega⟩
          · obtain ⟨x, hx, hxt⟩ := ih.2 (.inl (by omega))
            exact ⟨x, List.mem_cons_of_mem _ hx, hxt⟩
        · obtain ⟨x, hx, hxt⟩ := ih.2 (.inr h1)
          exact ⟨x, List.mem_cons_of_mem _ hx, hxt⟩
    · rw [if_neg e]
      simp only [List.drop_zero, Int.natCast_zero, Int.add_zero]
      constructor
      · exact .inr
      · rintro (h1 | h1)
        · omega
        · exact h1
theorem put_mem (n : NoteT) (t : Int) : ∀ {l : List NoteT}, (∃ h ∈ putF n l, h.1 = t) ↔ (n.1 = t ∨ ∃ h ∈ l, h.1 = t)
  | [] => by simp [putF]
  | a :: l => by
    unfold putF
    by_cases e : a.1 = n.1
    · rw [if_pos e]
      constructor
      · exact .inr
      · rintro (h1 | h1)
        · exact ⟨a, List.mem_cons_self .., by omega⟩
        · exact h1
    · rw [if_neg e]
      by_cases e2 : n.1 < a.1
      · rw [if_pos e2]
        simp only [List.mem_cons, exists_eq_or_imp]
      · rw [if_neg e2]
        have ih := put_mem n t (l := l)
        simp only [List.mem_cons, exists_eq_or_imp, ih]
        constructor
        · rintro (h1 | h1 | h1)
          · exact .inr (.inl h1)
          · exact .inl h1
          · exact .inr (.inr h1)
        · rintro (h1 | h1 | h1)
          · exact .inr (.inl h1)
          · exact .inl h1
          · exact .inr (.inr h1)

/-- What came, where nothing came too far ahead of its turn. -/
def cameP (S : List Int) (nx : Int) (f : FeedT) : Prop := f.2.1 = true ∨ ∀ s, s ∈ S ↔ ((1 ≤ s ∧ s < nx) ∨ ∃ h ∈ f.1, h.1 = s)
theorem came_step {S : List Int} {f : FeedT} {n : NoteT} {nx : Int} (hr : rightP f nx) (hn : 1 ≤ n.1 ∧ n.1 ≤ 1000000000) (hc : cameP S nx f) :
    cameP (S ++ [n.1]) (nx + ((comeF f n nx).2.1.length : Int)) (comeF f n nx).1 := by
  obtain ⟨d1, d2, d3, d4⟩ := id hr
  unfold comeF
  rw [if_neg (by intro h; rcases h with h | h | h; exact h hr; omega; omega)]
  by_cases b1 : n.1 < nx
  · rw [if_pos b1]
    rcases hc with hc | hc
    · exact .inl hc
    · right
      intro s
      simp only [List.length_nil, Int.natCast_zero, Int.add_zero, List.mem_append, List.mem_singleton]
      rw [hc s]
      constructor
      · rintro (h | h)
        · exact h
        · left; omega
      · exact .inl
  rw [if_neg b1]
  by_cases b2 : n.1 > nx + 8
  · rw [if_pos b2]
    exact .inl rfl
  rw [if_neg b2]
  by_cases b3 : n.1 = nx
  · rw [if_pos b3]
    have hk := rowN_le f.1 (nx + 1)
    have hlen : (n :: f.1.take (rowN f.1 (nx + 1))).length = rowN f.1 (nx + 1) + 1 := by rw [List.length_cons, List.length_take]; omega
    rcases hc with hc | hc
    · exact .inl hc
    · right
      intro s
      simp only [hlen, List.mem_append, List.mem_singleton]
      rw [hc s, row_mem (s := nx + 1) s]
      constructor
      · rintro ((h | h | h) | h)
        · left; omega
        · left; omega
        · exact .inr h
        · left; omega
      · rintro (h | h)
        · by_cases e1 : s < nx
          · exact .inl (.inl ⟨h.1, e1⟩)
          · by_cases e2 : s = nx
            · right; omega
            · left; right; left; omega
        · exact .inl (.inr (.inr h))
  · rw [if_neg b3]
    rcases hc with hc | hc
    · exact .inl hc
    · right
      intro s
      simp only [List.length_nil, Int.natCast_zero, Int.add_zero, List.mem_append, List.mem_singleton]
      rw [hc s, put_mem]
      constructor
      · rintro ((h | h) | h)
        · exact .inl h
        · exact .inr (.inr h)
        · exact .inr (.inl h.symm)
      · rintro (h | h | h)
        · exact .inl (.inl h)
        · exact .inr h.symm
        · exact .inl (.inr h)

theorem came_end {S : List Int} {f : FeedT} {nx : Int} {n : Nat} (hr : rightP f nx) (hc : cameP S nx f) (hS : ∀ s, s ∈ S ↔ (1 ≤ s ∧ s ≤ (n : Int))) : (f.2.1 || ((nx == (n : Int) + 1) && ((f.1.length : Int) == 0))) = true := by
  obtain ⟨d1, d2, d3, d4⟩ := id hr
  rcases hc with hc | hc
  · rw [hc]; rfl
  · have hnx : nx = (n : Int) + 1 := by
      by_cases e : nx ≤ (n : Int)
      · have := (hc nx).1 ((hS nx).2 ⟨d1, e⟩)
        rcases this with h | ⟨h, hh, hh2⟩
        · omega
        · obtain ⟨i, hi, rfl⟩ := List.getElem_of_mem hh
          have := (held_get d4 i hi).1
          omega
      · by_cases e2 : nx = (n : Int) + 1
        · exact e2
        · have := (hS ((n : Int) + 1)).1 ((hc _).2 (.inl (by omega)))
          omega
    have hnil : f.1 = [] := by
      cases hq : f.1 with
      | nil => rfl
      | cons a l =>
        have h1 := (hS a.1).1 ((hc a.1).2 (.inr ⟨a, by rw [hq]; exact List.mem_cons_self .., rfl⟩))
        rw [hq] at d4
        have := d4.1
        omega
    rw [hnx, hnil]
    simp

theorem mem_swap {l : List Int} {k : Nat} (hk : k + 1 < l.length) (s : Int) : s ∈ (l.set k l[k + 1]).set (k + 1) l[k] ↔ s ∈ l := by
  simp only [List.mem_iff_getElem, List.length_set, List.getElem_set]
  constructor
  · rintro ⟨i, hi, h⟩
    split at h
    · exact ⟨k, by omega, h⟩
    · split at h
      · exact ⟨k + 1, hk, h⟩
      · exact ⟨i, hi, h⟩
  · rintro ⟨i, hi, h⟩
    by_cases e1 : i = k
    · subst e1
      exact ⟨i + 1, hk, by rw [if_pos rfl]; exact h⟩
    · by_cases e2 : i = k + 1
      · subst e2
        exact ⟨k, by omega, by rw [if_neg (by omega), if_pos rfl]; exact h⟩
      · exact ⟨i, hi, by rw [if_neg (by omega), if_neg (by omega)]; exact h⟩

theorem pure_FeedAll (a : Int × ((List Int) × ((List Int) × Unit))) (h : Rg (consS [.int .u8, .slice 1 (.int .u8), .slice 1 (.int .u8)]) a) : g_law17_FeedAll a = some true := by
  obtain ⟨m, xs, ys, ⟨⟩⟩ := a
  obtain ⟨hm, hx, hy, _⟩ := h
  have hm2 : 0 ≤ m ∧ m < 256 := rg_u8 hm
  have hx2 : ∀ x ∈ xs, 0 ≤ x ∧ x < 256 := fun x hxs => rg_u8 (hx.2 x hxs)
  have hy2 : ∀ x ∈ ys, 0 ≤ x ∧ x < 256 := fun x hxs => rg_u8 (hy.2 x hxs)
  unfold g_law17_FeedAll
  simp only [awake17, Option.bind_some, Bool.not_true, cond_false]
  by_cases c : (xs.length : Int) > 200 ∨ (ys.length : Int) > 60
  · have : (decide ((xs.length : Int) > 200) || decide ((ys.length : Int) > 60)) = true := by simpa using c
    rw [this]; rfl
  have e0 : (decide ((xs.length : Int) > 200) || decide ((ys.length : Int) > 60)) = false := by
    have c1 : ¬ (xs.length : Int) > 200 := fun h => c (.inl h)
    have c2 : ¬ (ys.length : Int) > 60 := fun h => c (.inr h)
    simp [c1, c2]
  have c1 : xs.length ≤ 200 := by have : ¬ (xs.length : Int) > 200 := fun h => c (.inl h); omega
  have c2 : ys.length ≤ 60 := by have : ¬ (ys.length : Int) > 60 := fun h => c (.inr h); omega
  rw [e0]
  obtain ⟨n, hn, hn2⟩ : ∃ n : Nat, Int.tmod (IntKind.wrap .i64 m) 61 = (n : Int) ∧ n ≤ 60 := by
    rw [wrap_i64_in (n := m) (by omega) (by omega), Int.tmod_eq_emod_of_nonneg hm2.1]
    exact ⟨(m % 61).toNat, by omega, by omega⟩
  simp only [cond_false, hn]
  -- the numbers
  refine loop_then (fun (x : Nat × List Int) => (x.2, ((x.1 : Int) + 1, ()))) (fun x => x.1 ≤ n ∧ x.2.length = x.1 ∧ ∀ s, s ∈ x.2 ↔ (1 ≤ s ∧ s ≤ (x.1 : Int))) (fun o => ∃ l, o = (l, ()) ∧ l.length = n ∧ ∀ s, s ∈ l ↔ (1 ≤ s ∧ s ≤ (n : Int))) (fun x => n - x.1) (0, []) rfl ⟨by simp, rfl, fun s => by simp <;> omega⟩ ?_ ?_
  · rintro ⟨i, l⟩ ⟨h1, h2, h3⟩
    simp only at h1 h2 h3
    by_cases hi : i < n
    · left
      refine ⟨(i + 1, l ++ [(i : Int) + 1]), ?_, ⟨hi, by simp [h2], ?_⟩, by simp only; omega⟩
      · have : appX l [(i : Int) + 1] 8 = some (l ++ [(i : Int) + 1]) := appX_ok (by simp; omega) (by simp [maxLen]; omega)
        simp only [decide_eq_true (show (i : Int) + 1 ≤ (n : Int) by omega), cond_true, this, Option.bind_some]
        rw [wrap_i64_in (n := (i : Int) + 1 + 1) (by omega) (by omega)]
        rfl
      · intro s
        simp only [List.mem_append, h3, List.mem_singleton]
        omega
    · right
      have : i = n := by omega
      subst this
      refine ⟨(l, ()), ?_, l, rfl, h2, h3⟩
      simp only [decide_eq_false (show ¬ (i : Int) + 1 ≤ (i : Int) by omega), cond_false]
      rfl
  rintro o ⟨l, rfl, hl, hL⟩
  -- changed about
  refine loop_then (fun (x : Nat × List Int) => ((x.1 : Int), (x.2, ()))) (fun x => x.1 ≤ xs.length ∧ x.2.length = n ∧ ∀ s, s ∈ x.2 ↔ (1 ≤ s ∧ s ≤ (n : Int))) (fun o => ∃ l, o = (l, ()) ∧ l.length = n ∧ ∀ s, s ∈ l ↔ (1 ≤ s ∧ s ≤ (n : Int))) (fun x => xs.length - x.1) (0, l) rfl ⟨Nat.zero_le _, hl, hL⟩ ?_ ?_
  · rintro ⟨i, l⟩ ⟨h1, h2, h3⟩
    simp only at h1 h2 h3
    by_cases hi : i < xs.length ∧ 1 < n
    · left
      obtain ⟨hi, hn1⟩ := hi
      have hx3 := hx2 _ (List.getElem_mem hi)
      have ew : IntKind.wrap .i64 ((n : Int) - 1) = ((n - 1 : Nat) : Int) := by rw [wrap_i64_in (by omega) (by omega)]; omega
      obtain ⟨k, hk, hk2⟩ : ∃ k : Nat, Int.tmod (IntKind.wrap .i64 xs[i]) ((n - 1 : Nat) : Int) = (k : Int) ∧ k + 1 < n := by
        rw [wrap_i64_in (n := xs[i]) (by omega) (by omega), Int.tmod_eq_emod_of_nonneg hx3.1]
        have h4 := Int.emod_nonneg xs[i] (show ((n - 1 : Nat) : Int) ≠ 0 by omega)
        have h5 := Int.emod_lt_of_pos xs[i] (show 0 < ((n - 1 : Nat) : Int) by omega)
        exact ⟨(xs[i] % ((n - 1 : Nat) : Int)).toNat, by omega, by omega⟩
      have ek : IntKind.wrap .i64 ((k : Int) + 1) = ((k + 1 : Nat) : Int) := wrap_succ (by omega)
      have i1 : inI ((k + 1 : Nat) : Int) l.length = true := by simp [inI]; omega
      have i2 : inI (k : Int) l.length = true := by simp [inI]; omega
      have i3 : ∀ v : Int, inI ((k + 1 : Nat) : Int) (l.set k v).length = true := fun v => by rw [List.length_set]; exact i1
      have g1 : l[k + 1]? = some l[k + 1] := List.getElem?_eq_getElem (by omega)
      have g2 : l[k]? = some l[k] := List.getElem?_eq_getElem (by omega)
      have g3 : ∀ v : Int, (l.set k v)[k + 1]? = some l[k + 1] := fun v => by rw [List.getElem?_set_ne (by omega)]; exact g1
      refine ⟨(i + 1, (l.set k l[k + 1]).set (k + 1) l[k]), ?_, ⟨hi, by simp [h2], fun s => by simp only; rw [mem_swap (by omega), h3 s]⟩, by simp only; omega⟩
      simp only [ltI hi, decide_eq_true (show (n : Int) > 1 by omega), Bool.and_self, cond_true, getI_at hi, Option.bind_some, ew, hk, ek, decide_eq_false (show ¬ ((n - 1 : Nat) : Int) = 0 by omega), cond_false, i1, i2, i3, Int.toNat_natCast, g1, g2, g3, wrap_succ (n := i) (by omega)]
    · right
      refine ⟨(l, ()), ?_, l, rfl, h2, h3⟩
      have : (decide ((i : Int) < (xs.length : Int)) && decide ((n : Int) > 1)) = false := by
        by_cases e : i < xs.length
        · have : ¬ 1 < n := fun h => hi ⟨e, h⟩
          rw [decide_eq_false (show ¬ (n : Int) > 1 by omega), Bool.and_false]
        · rw [decide_eq_false (show ¬ (i : Int) < (xs.length : Int) by omega), Bool.false_and]
      simp only [this, cond_false]
      rfl
  rintro o ⟨l, rfl, hl, hL⟩
  -- some twice
  refine loop_then (fun (x : Nat × List Int) => (x.2, ((x.1 : Int), ()))) (fun x => x.1 ≤ ys.length ∧ x.2.length = n + x.1 ∧ ∀ s, s ∈ x.2 ↔ (1 ≤ s ∧ s ≤ (n : Int))) (fun o => ∃ l, o = (l, ()) ∧ l.length ≤ n + ys.length ∧ ∀ s, s ∈ l ↔ (1 ≤ s ∧ s ≤ (n : Int))) (fun x => ys.length - x.1) (0, l) rfl ⟨Nat.zero_le _, hl, hL⟩ ?_ ?_
  · rintro ⟨i, l⟩ ⟨h1, h2, h3⟩
    simp only at h1 h2 h3
    by_cases hi : i < ys.length ∧ 0 < n
    · left
      obtain ⟨hi, hn1⟩ := hi
      have hx3 := hy2 _ (List.getElem_mem hi)
      obtain ⟨k, hk, hk2⟩ : ∃ k : Nat, Int.tmod (IntKind.wrap .i64 ys[i]) (n : Int) = (k : Int) ∧ k < n := by
        rw [wrap_i64_in (n := ys[i]) (by omega) (by omega), Int.tmod_eq_emod_of_nonneg hx3.1]
        have h4 := Int.emod_nonneg ys[i] (show (n : Int) ≠ 0 by omega)
        have h5 := Int.emod_lt_of_pos ys[i] (show 0 < (n : Int) by omega)
        exact ⟨(ys[i] % (n : Int)).toNat, by omega, by omega⟩
      have i2 : inI (k : Int) l.length = true := by simp [inI]; omega
      have g2 : l[k]? = some l[k] := List.getElem?_eq_getElem (by omega)
      have ap : appX l (l[k] :: []) 8 = some (l ++ [l[k]]) := appX_ok (by simp; omega) (by simp [maxLen]; omega)
      refine ⟨(i + 1, l ++ [l[k]]), ?_, ⟨hi, by simp [h2]; omega, fun s => ?_⟩, by simp only; omega⟩
      · simp only [ltI hi, decide_eq_true (show (n : Int) > 0 by omega), Bool.and_self, cond_true, getI_at hi, Option.bind_some, hk, decide_eq_false (show ¬ (n : Int) = 0 by omega), cond_false, i2, Int.toNat_natCast, g2, ap, wrap_succ (n := i) (by omega)]
      · simp only [List.mem_append, List.mem_singleton]
        rw [h3 s]
        constructor
        · rintro (h | h)
          · exact h
          · rw [h]; exact (h3 _).1 (List.getElem_mem _)
        · exact .inl
    · right
      refine ⟨(l, ()), ?_, l, rfl, by omega, h3⟩
      have : (decide ((i : Int) < (ys.length : Int)) && decide ((n : Int) > 0)) = false := by
        by_cases e : i < ys.length
        · have : ¬ 0 < n := fun h => hi ⟨e, h⟩
          rw [decide_eq_false (show ¬ (n : Int) > 0 by omega), Bool.and_false]
        · rw [decide_eq_false (show ¬ (i : Int) < (ys.length : Int) by omega), Bool.false_and]
      simp only [this, cond_false]
      rfl
  rintro o ⟨l, rfl, hl, hL⟩
  -- they come
  refine loop_then (fun (x : Nat × (Int × FeedT)) => (x.2.1, ((x.1 : Int), x.2.2))) (fun x => x.1 ≤ l.length ∧ x.2.1 ≤ 1 + 9 * (x.1 : Int) ∧ rightP x.2.2 x.2.1 ∧ cameP (l.take x.1) x.2.1 x.2.2) (fun o => ∃ nx f, o = .inl (nx, f) ∧ rightP f nx ∧ cameP l nx f) (fun x => l.length - x.1) (0, (1, ([], (false, ())))) rfl ⟨Nat.zero_le _, by simp, ⟨by simp, by simp, by simp, trivial⟩, .inr fun s => by simp <;> omega⟩ ?_ ?_
  · rintro ⟨i, nx, f⟩ ⟨h1, h2, h3, h4⟩
    simp only at h1 h2 h3 h4
    by_cases hi : i < l.length
    · left
      have hs := (hL _).1 (List.getElem_mem hi)
      have hn1 : 1 ≤ (noteF l[i]).1 ∧ (noteF l[i]).1 ≤ 1000000000 := by simp only [noteF]; omega
      have hst := came_step h3 hn1 h4
      obtain ⟨f', rd, q1, q2, q3, q4, q5⟩ := come_ok h3 hn1 (by omega)
      rw [q1] at hst
      refine ⟨(i + 1, (nx + (rd.length : Int), f')), ?_, ⟨hi, by simp only; omega, q2, ?_⟩, by simp only; omega⟩
      · have i2 : inI (i : Int) l.length = true := by simp [inI]; omega
        have g2 : l[i]? = some l[i] := List.getElem?_eq_getElem (by omega)
        simp only [ltI hi, cond_true, i2, Int.toNat_natCast, g2, Option.bind_some, law_note, feed_Come, q1, bne_self_eq_false, cond_false, wrap_succ (n := i) (by omega)]
        rw [wrap_i64_in (n := nx + (rd.length : Int)) (by have := h3.1; omega) (by omega)]
      · simp only
        rw [List.take_add_one, List.getElem?_eq_getElem hi]
        exact hst
    · right
      have : i = l.length := by omega
      subst this
      rw [List.take_length] at h4
      refine ⟨.inl (nx, f), ?_, nx, f, rfl, h3, h4⟩
      simp only [ltI', cond_false]
      rfl
  rintro o ⟨nx, f, rfl, h1, h2⟩
  have := came_end h1 h2 hL
  simp only [eX]
  rw [wrap_i64_in (n := (n : Int) + 1) (by omega) (by omega)]
  exact congrArg some this
end Go.AI
