/- order: the reference rules answer alike. -/
import Derived.Test.YtgpnkkhfnljfmaaXOrder
namespace Go.AI
theorem ref06_New (id ac sy sd q p : Int) : g_ref06_Right (⟨1, id, ac, sy, sd, q, p, 0, 0, 0, false, 0, 0, ()⟩, ()) = some (decide (newP id ac sy sd q p)) := by
  simp only [g_ref06_Right, g_ref06_id, beq_self_eq_true, cond_true, Option.bind_some, Bool.and_self, Bool.not_true, cond_false, Bool.true_and, cond_some, Bool.and_true]
  congr 1
  refine dec_of ?_
  unfold newP idP
  simp
  omega

theorem ref06_Event (n : NotR) : g_ref06_Right (⟨6, n.2.2.1, 0, 0, 0, n.2.2.2.1, n.2.2.2.2.1, 0, 0, 0, false, n.1, n.2.1, ()⟩, ()) = some (decide (evP n)) := by
  have k1 : ((6 : Int) == 1) = false := rfl
  have k2 : ((6 : Int) == 2) = false := rfl
  have k3 : ((6 : Int) == 3) = false := rfl
  have k4 : ((6 : Int) == 4) = false := rfl
  have k5 : ((6 : Int) == 5) = false := rfl
  simp only [g_ref06_Right, g_ref06_id, k1, k2, k3, k4, k5, beq_self_eq_true, cond_true, Option.bind_some, Bool.and_self, Bool.not_true, cond_false, Bool.true_and, Bool.and_true, cond_some]
  congr 1
  refine dec_of ?_
  unfold evP idP
  by_cases w1 : n.2.1 = 1
  · simp [w1]; try omega
  by_cases w2 : n.2.1 = 2
  · simp [w2]; try omega
  by_cases w3 : n.2.1 = 3
  · simp [w3]; try omega
  by_cases w4 : n.2.1 = 4
  · simp [w4]; try omega
  by_cases w5 : n.2.1 = 5
  · simp [w5]; try omega
  by_cases w6 : n.2.1 = 6
  · simp [w6]; try omega
  have b3 : (n.2.1 == 3) = false := by simp [w3]
  have b5 : (n.2.1 == 5) = false := by simp [w5]
  simp [w1, w2, w3, w4, w5, w6, b3, b5]
  try omega

theorem ref07_Right (o : OrdR) : g_ref07_Right (o, ()) = some (decide (ordP o)) := by
  simp only [g_ref07_Right, ref06_New, Option.bind_some, cond_some]
  congr 1
  refine dec_of ?_
  unfold ordP pend
  by_cases hN : newP o.1 o.2.1 o.2.2.1 o.2.2.2.1 o.2.2.2.2.1 o.2.2.2.2.2.1
  · by_cases p1 : o.2.2.2.2.2.2.2.1 = 1
    · simp [hN, p1]; omega
    by_cases p2 : o.2.2.2.2.2.2.2.1 = 2
    · simp [hN, p2]; omega
    have b1 : (o.2.2.2.2.2.2.2.1 == 1) = false := by simp [p1]
    have b2 : (o.2.2.2.2.2.2.2.1 == 2) = false := by simp [p2]
    simp [hN, p1, p2, b1, b2]; omega
  · simp [hN]
theorem ref07_Open (o : OrdR) (ro : R_OrdR o) : g_ref07_Open (o, ()) = some (openF o) := by
  unfold g_ref07_Open openF
  rw [ref07_Right]
  simp only [Option.bind_some]
  obtain ⟨_, _, _, _, rq, rp, rf, _, rnq, rnp, _⟩ := id ro
  unfold R_i64 at rq rf rnq
  by_cases h : ordP o
  · obtain ⟨_, h1, h2, _⟩ := id h
    by_cases k : o.2.2.2.2.2.2.2.1 = 3
    · simp [h, k]
    · have b : (o.2.2.2.2.2.2.2.1 == 3) = false := by simp [k]
      rw [if_pos ⟨h, k⟩]
      by_cases n : o.2.2.2.2.2.2.2.2.1 > o.2.2.2.2.1
      · have w : IntKind.wrap .i64 (o.2.2.2.2.2.2.2.2.1 - o.2.2.2.2.2.2.1) = o.2.2.2.2.2.2.2.2.1 - o.2.2.2.2.2.2.1 := wrap_of (by omega) (by omega)
        simp [h, b, n, w]
      · have w : IntKind.wrap .i64 (o.2.2.2.2.1 - o.2.2.2.2.2.2.1) = o.2.2.2.2.1 - o.2.2.2.2.2.2.1 := wrap_of (by omega) (by omega)
        simp [h, b, n, w]
  · simp [h]

theorem ref07_Worth (o : OrdR) (ro : R_OrdR o) : g_ref07_Worth (o, ()) = some (worthF o) := by
  unfold g_ref07_Worth worthF
  rw [ref07_Right]
  simp only [Option.bind_some]
  by_cases h : ordP o
  · obtain ⟨_, h1, h2, _, h4, _⟩ := id h
    obtain ⟨_, _, _, _, rq, rp, rf, _, rnq, rnp, _⟩ := id ro
    by_cases p : o.2.2.2.2.2.2.2.1 = 3
    · simp [h, p]
    · have b : (o.2.2.2.2.2.2.2.1 == 3) = false := by simp [p]
      have wl : IntKind.wrap .i64 (o.2.2.2.2.1 - o.2.2.2.2.2.2.1) = o.2.2.2.2.1 - o.2.2.2.2.2.2.1 := by unfold R_i64 at rq rf; exact wrap_of (by omega) (by omega)
      have rl : R_i64 (o.2.2.2.2.1 - o.2.2.2.2.2.2.1) := by unfold R_i64 at rq rf ⊢; omega
      obtain ⟨d, hd, hd'⟩ := nr_mul (o.2.2.2.2.1 - o.2.2.2.2.2.2.1) o.2.2.2.2.2.1 rl rp
      simp only [h, b, decide_true, Bool.not_true, cond_false, not_true, if_false, p, wl, hd, Option.bind_some]
      by_cases f1 : fit (nowW o)
      · have f1' : fit ((o.2.2.2.2.1 - o.2.2.2.2.2.2.1) * o.2.2.2.2.2.1) := f1
        have ed : d = nowW o := hd' f1'
        simp only [f1, f1', decide_true, Bool.not_true, cond_false, not_true, if_false, ed]
        by_cases hn : o.2.2.2.2.2.2.2.2.1 ≤ o.2.2.2.2.2.2.1
        · have g : ¬ o.2.2.2.2.2.2.2.2.1 > o.2.2.2.2.2.2.1 := by omega
          simp only [hn, g, decide_false, cond_false, Option.bind_some, if_true]
          rfl
        · have g : o.2.2.2.2.2.2.2.2.1 > o.2.2.2.2.2.2.1 := by omega
          have wn : IntKind.wrap .i64 (o.2.2.2.2.2.2.2.2.1 - o.2.2.2.2.2.2.1) = o.2.2.2.2.2.2.2.2.1 - o.2.2.2.2.2.2.1 := by unfold R_i64 at rnq rf; exact wrap_of (by omega) (by omega)
          have rn : R_i64 (o.2.2.2.2.2.2.2.2.1 - o.2.2.2.2.2.2.1) := by unfold R_i64 at rnq rf ⊢; omega
          obtain ⟨d2, hd2, hd2'⟩ := nr_mul (o.2.2.2.2.2.2.2.2.1 - o.2.2.2.2.2.2.1) o.2.2.2.2.2.2.2.2.2.1 rn rnp
          simp only [g, decide_true, cond_true, wn, hd2, Option.bind_some, hn, if_false]
          by_cases f2 : fit (thenW o)
          · have f2' : fit ((o.2.2.2.2.2.2.2.2.1 - o.2.2.2.2.2.2.1) * o.2.2.2.2.2.2.2.2.2.1) := f2
            have ed2 : d2 = thenW o := hd2' f2'
            simp only [f2, f2', decide_true, Bool.not_true, cond_false, not_true, if_false, ed2]
            by_cases l : thenW o > nowW o
            · simp only [l, decide_true, cond_true, Option.bind_some, if_true]; rfl
            · simp only [l, decide_false, cond_false, Option.bind_some, if_false]; rfl
          · have f2' : ¬ fit ((o.2.2.2.2.2.2.2.2.1 - o.2.2.2.2.2.2.1) * o.2.2.2.2.2.2.2.2.2.1) := f2
            simp only [f2, f2', decide_false, Bool.not_false, cond_true, Option.bind_some, not_false_iff, if_true]; rfl
      · have f1' : ¬ fit ((o.2.2.2.2.1 - o.2.2.2.2.2.2.1) * o.2.2.2.2.2.1) := f1
        simp [f1, f1']
  · simp [h]

end Go.AI
