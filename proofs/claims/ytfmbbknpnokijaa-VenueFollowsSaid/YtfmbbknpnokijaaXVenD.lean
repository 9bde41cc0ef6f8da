/- venue: the program does what is said. -/
import Derived.Test.YtfmbbknpnokijaaXVenC
namespace Go.AI
open IntKind

theorem inI_nat {i n : Nat} (h : i < n) : inI (i : Int) n = true := by
  unfold inI
  rw [decide_eq_true_eq]
  omega
def sgn (w : Int) : Int := if w < 0 then -1 else if w = 0 then 0 else 1
theorem cmp_eq (w : Int) : (if (1 : Int) < (if (-1 : Int) > w then -1 else w) then 1 else (if (-1 : Int) > w then -1 else w)) = sgn w := by
  unfold sgn
  by_cases h1 : w < -1
  · rw [if_pos h1, if_neg (by omega), if_pos (by omega)]
  · rw [if_neg h1]
    by_cases h2 : 1 < w
    · rw [if_pos h2, if_neg (by omega), if_neg (by omega)]
    · rw [if_neg h2]
      by_cases h3 : w < 0
      · rw [if_pos h3]; omega
      · rw [if_neg h3]
        by_cases h4 : w = 0
        · rw [if_pos h4]; omega
        · rw [if_neg h4]; omega
theorem sgn_neg (w : Int) : (sgn w < 0) = (w < 0) := by
  unfold sgn
  by_cases h3 : w < 0
  · rw [if_pos h3]; simp [h3]
  · rw [if_neg h3]
    by_cases h4 : w = 0
    · rw [if_pos h4]; simp [h4]
    · rw [if_neg h4]; simp [h3]
theorem sgn_zero (w : Int) : (sgn w == 0) = decide (w = 0) := by
  unfold sgn
  by_cases h3 : w < 0
  · rw [if_pos h3, decide_eq_false (by omega)]; rfl
  · rw [if_neg h3]
    by_cases h4 : w = 0
    · rw [if_pos h4, decide_eq_true h4]; rfl
    · rw [if_neg h4, decide_eq_false h4]; rfl
theorem wrap_u64_in {n : Int} (h0 : 0 ≤ n) (h1 : n < 18446744073709551616) : IntKind.u64.wrap n = n := by
  rw [IntKind.wrap_u64]; omega
theorem half_eq {lo hi : Nat} (h : lo + hi < 9223372036854775808) : IntKind.wrap .i64 (Int.fdiv (IntKind.wrap .u64 (IntKind.wrap .i64 ((lo : Int) + (hi : Int)))) (2 ^ 1)) = (((lo + hi) / 2 : Nat) : Int) := by
  rw [wrap_i64_in (n := (lo : Int) + hi) (by omega) (by omega), wrap_u64_in (by omega) (by omega)]
  have : Int.fdiv ((lo : Int) + (hi : Int)) (2 ^ 1) = (((lo + hi) / 2 : Nat) : Int) := by
    rw [Int.fdiv_eq_ediv_of_nonneg _ (by omega)]
    norm_cast
  rw [this, wrap_i64_in (by omega) (by omega)]

theorem search_ok {os : List OrdR} {id : Int} {step : Int × (Int × Unit) → Option ((Int × (Int × Unit)) ⊕ (Int × Unit))} (hs : SrtO os) (hl : os.length ≤ 1000)
    (h1 : ∀ lo hi : Nat, lo < hi → ∀ h : (lo + hi) / 2 < os.length, step ((lo : Int), ((hi : Int), ())) = some (bif decide ((os[(lo + hi) / 2]).1 < id) then .inl ((((lo + hi) / 2 + 1 : Nat) : Int), ((hi : Int), ())) else .inl ((lo : Int), ((((lo + hi) / 2 : Nat) : Int), ()))))
    (h2 : ∀ lo hi : Nat, ¬ lo < hi → step ((lo : Int), ((hi : Int), ())) = some (.inr ((lo : Int), ()))) : loopO step (0, ((os.length : Int), ())) = some ((rankO os id : Int), ()) := by
  have hr := rankO_le os id
  have hstep : ∀ x : Nat × Nat, (x.1 ≤ rankO os id ∧ rankO os id ≤ x.2 ∧ x.2 ≤ os.length) → (∃ y : Nat × Nat, step (((x.1 : Int), ((x.2 : Int), ()))) = some (.inl (((y.1 : Int), ((y.2 : Int), ())))) ∧ (y.1 ≤ rankO os id ∧ rankO os id ≤ y.2 ∧ y.2 ≤ os.length) ∧ y.2 - y.1 < x.2 - x.1) ∨ ∃ o : Int × Unit, step (((x.1 : Int), ((x.2 : Int), ()))) = some (.inr o) ∧ o = ((rankO os id : Int), ()) := by
    rintro ⟨lo, hi⟩ ⟨g1, g2, g3⟩
    simp only at g1 g2 g3 ⊢
    by_cases c : lo < hi
    · left
      have hm : (lo + hi) / 2 < os.length := by omega
      rw [h1 lo hi c hm]
      by_cases hq : (os[(lo + hi) / 2]).1 < id
      · have hge : (lo + hi) / 2 < rankO os id := by
          apply Classical.byContradiction
          intro hc
          have := rankO_ge hs (n := id) (i := (lo + hi) / 2) (by omega) hm
          omega
        rw [decide_eq_true hq]
        exact ⟨((lo + hi) / 2 + 1, hi), rfl, ⟨by simp only; omega, g2, g3⟩, by simp only; omega⟩
      · have hle : rankO os id ≤ (lo + hi) / 2 := by
          apply Classical.byContradiction
          intro hc
          exact hq (rankO_lt (by omega) hm)
        rw [decide_eq_false hq]
        exact ⟨(lo, (lo + hi) / 2), rfl, ⟨g1, hle, by simp only; omega⟩, by simp only; omega⟩
    · right
      have : lo = rankO os id := by omega
      exact ⟨_, h2 lo hi c, by rw [this]⟩
  obtain ⟨o, h1, h2⟩ := loop_meas (step := step) (fun x : Nat × Nat => ((x.1 : Int), ((x.2 : Int), ()))) (fun x => x.1 ≤ rankO os id ∧ rankO os id ≤ x.2 ∧ x.2 ≤ os.length) (fun o : Int × Unit => o = ((rankO os id : Int), ())) (fun x => x.2 - x.1) hstep (x := (0, os.length)) ⟨Nat.zero_le _, hr, Nat.le_refl _⟩
  rw [← h2]
  exact h1

theorem ins_ok {os : List OrdR} {x : OrdR} (hl : os.length ≤ 1000) (h : getO os x.1 = none) : insX os (rankO os x.1 : Int) (x :: []) 96 = some (putO os x) := by
  have hle := rankO_le os x.1
  unfold insX
  rw [if_pos ⟨by simp, by omega, by omega, by simp; omega, by simp [maxLen]; omega⟩, Int.toNat_natCast, putO_new h]
  simp

theorem venue_swells (m : MsgR) (ms : List MsgR) (os : List OrdR) (ns : List NotR) (hs : SrtO os) (hl : os.length ≤ 1000) : g_venue_swells ((m :: ms, (os, (ns, ()))), ()) = some (decide (m.1 = 1 ∧ getO os m.2.1 = none)) := by
  unfold g_venue_swells
  rw [show getI (m :: ms) 0 = some m from rfl]
  simp only [Option.bind_some]
  by_cases hk : m.1 = 1
  · have ek : (m.1 == 1) = true := by simp [hk]
    rw [ek, cond_true, venue_Find _ _ hl, Option.bind_some, Option.bind_some]
    dsimp only
    rw [posO_getO hs]
    cases hg : getO os m.2.1 with
    | none => simp [hk, atI]
    | some o =>
      simp [atI]
  · have ek : (m.1 == 1) = false := by simp [hk]
    rw [ek, cond_false, Option.bind_some, decide_eq_false (by simp [hk])]

/-- Is there a live order? -/
theorem live_ok {os : List OrdR} {id : Int} (hs : SrtO os) : (bif (atI (posO os id) == (-1)) then some true
        else bif (inI (atI (posO os id)) os.length) then (os[(Int.toNat (atI (posO os id)))]?).bind (fun (v21 : OrdR) => some (v21.2.2.2.2.2.2.2.1 != 2))
        else none) = some (match getO os id with
          | none => true
          | some o => (o.2.2.2.2.2.2.2.1 != 2)) := by
  rw [posO_getO hs]
  cases hg : getO os id with
  | none => rfl
  | some o =>
    have hat := getO_at hs hg
    have hlt := lt_of_get hat
    dsimp only [Option.map_some, atI]
    have e : ((rankO os id : Int) == -1) = false := by simp
    rw [e, cond_false, inI_nat hlt, cond_true, Int.toNat_natCast, hat, Option.bind_some]

theorem set_get {α : Type} {l : List α} {k : Nat} (h : k < l.length) (x : α) : (l.set k x)[k]? = some x := by
  rw [List.getElem?_set_self h]

theorem venue_Take (v : VenR) (acc : Bool) : g_venue_Take (v, (acc, ())) = some (takeV v acc) := by
  unfold g_venue_Take takeV
  rw [venue_Right, Option.bind_some]
  cases hr : rightV v with
  | false => rfl
  | true =>
  have hR := (rightV_iff v).1 hr
  obtain ⟨ms, os, ns, ⟨⟩⟩ := v
  obtain ⟨h1, h2, h3, h4, h5, h6, h7⟩ := hR
  simp only at h1 h2 h3 h5 h6 h7
  rw [Bool.not_true, cond_false, if_neg (by simp)]
  simp only
  cases ms with
  | nil => rfl
  | cons m ms =>
  have e0 : (((m :: ms).length : Int) == 0) = false := by simp; omega
  have hm := h7 m List.mem_cons_self
  have hmk : m.1 = 1 ∨ m.1 = 2 ∨ m.1 = 3 := by
    obtain ⟨_, _, _, _, _, _, _, _, h | h | h⟩ := hm
    · exact .inl h.1
    · exact .inr (.inl h.1)
    · exact .inr (.inr h.1)
  rw [e0, cond_false]
  unfold g_venue_full
  simp only [Option.bind_some]
  rw [venue_swells m ms os ns h6 (by omega)]
  simp only [List.length_cons] at h1
  by_cases hn : ns.length = 400
  · have e : ((ns.length : Int) == 400) = true := by simp; omega
    rw [e, cond_true, Option.bind_some, cond_true, if_pos (.inl hn)]
  have e : ((ns.length : Int) == 400) = false := by simp; omega
  rw [e, cond_false, Option.bind_some, Option.bind_some]
  by_cases hq : m.1 = 1 ∧ getO os m.2.1 = none ∧ os.length = 400
  · have e4 : ((os.length : Int) == 400) = true := by simp; omega
    rw [decide_eq_true ⟨hq.1, hq.2.1⟩, e4, if_pos (.inr hq)]
    rfl
  have e4 : (decide (m.1 = 1 ∧ getO os m.2.1 = none) && ((os.length : Int) == 400)) = false := by
    by_cases hh : m.1 = 1 ∧ getO os m.2.1 = none
    · have : ((os.length : Int) == 400) = false := by
        have : ¬ os.length = 400 := fun h => hq ⟨hh.1, hh.2, h⟩
        simp; omega
      rw [this, Bool.and_false]
    · rw [decide_eq_false hh, Bool.false_and]
  rw [if_neg (by simp only [not_or]; exact ⟨hn, hq⟩)]
  simp only
  rw [e4, cond_false, clone_ok (m :: ms) (by simp; omega) (by omega), Option.bind_some, clone_ok os (by omega) (by omega), Option.bind_some, clone_ok ns (by omega) (by omega), Option.bind_some]
  have e5 : inI 0 (m :: ms).length = true := inI_nat (i := 0) (by simp)
  have e6 : inSl 1 ((m :: ms).length : Int) (m :: ms).length = true := by
    unfold inSl
    rw [decide_eq_true_eq]
    simp only [List.length_cons]
    omega
  have e7 : ((m :: ms).drop 1).take ((Int.toNat ((m :: ms).length : Int)) - 1) = ms := by
    rw [Int.toNat_natCast, List.length_cons, Nat.add_sub_cancel, List.drop_succ_cons, List.drop_zero, List.take_length]
  rw [e5, cond_true, show (m :: ms)[0]? = some m from rfl, Option.bind_some, e6, cond_true, e7]
  rw [venue_Find _ _ (by simp only; omega)]
  simp only [Option.bind_some]
  rw [live_ok h6]
  simp only [Option.bind_some]
  rw [wrap_succ (n := ns.length) (by omega)]
  have hup : ∀ w i q p : Int, appX ns ((((ns.length + 1 : Nat) : Int), (w, (i, (q, (p, ()))))) :: []) 40 = some (upN ns w i q p) := fun w i q p => app_ok _ _ (by omega) (by omega)
  unfold bodyV
  by_cases hk : m.1 = 1
  · have ek : (m.1 == 1) = true := by simp [hk]
    obtain ⟨⟨hid1, hid2⟩, _⟩ := hm
    rw [ek, cond_true, search_ok (id := m.2.1) h6 (by omega) ?_ ?_]
    rotate_left
    · intro lo hi hlt hmid
      have hb := (h5 _ (List.getElem_mem hmid)).1.1.1
      unfold idP at hb
      rw [ltI hlt, cond_true, half_eq (by omega), inI_nat hmid, cond_true, Int.toNat_natCast, List.getElem?_eq_getElem hmid, Option.bind_some, wrap_i64_in (n := (os[(lo + hi) / 2]).1 - m.2.1) (by omega) (by omega)]
      simp only [Bool.false_eq_true, if_false, if_true, cmp_eq, sgn_neg]
      by_cases hlt2 : (os[(lo + hi) / 2]).1 < m.2.1
      · simp only [show ((os[(lo + hi) / 2]).1 - m.2.1 < 0) = True from eq_true (by omega), hlt2, decide_true, cond_true, Option.bind_some]
        rw [wrap_succ (by omega)]
      · simp only [show ((os[(lo + hi) / 2]).1 - m.2.1 < 0) = False from eq_false (by omega), hlt2, decide_false, cond_false, Option.bind_some]
    · intro lo hi hlt
      dsimp only
      rw [decide_eq_false (by omega), cond_false]
      rfl
    rw [Option.bind_some]
    simp only
    have hins : getO os m.2.1 = none → ((bif acc then some ((1 : Int), ((m.2.1, (m.2.2.1, (m.2.2.2.1, (m.2.2.2.2.1, (m.2.2.2.2.2.1, (m.2.2.2.2.2.2.1, (0, (2, (0, (0, (0, (false, ())))))))))))) : OrdR))
             else some (2, (m.2.1, (m.2.2.1, (m.2.2.2.1, (m.2.2.2.2.1, (m.2.2.2.2.2.1, (m.2.2.2.2.2.2.1, (0, (3, (0, (0, (0, (false, ())))))))))))))) = some ((bif acc then 1 else 2), newO m acc) ∧ insX os (rankO os m.2.1 : Int) (newO m acc :: []) 96 = some (putO os (newO m acc))) := by
      intro hg
      refine ⟨?_, ins_ok (x := newO m acc) (by omega) hg⟩
      cases acc <;> rfl
    have hgr := getO_rank h6 m.2.1
    cases hg : getO os m.2.1 with
    | none =>
      obtain ⟨q1, q2⟩ := hins hg
      rw [q1]
      simp only [Option.bind_some]
      rw [q2]
      simp only [Option.bind_some]
      rw [hup]
      simp only [Option.bind_some, hk, if_true]
      rw [show (newO m acc).1 = m.2.1 from rfl]
      by_cases hlt : rankO os m.2.1 < os.length
      · rw [ltI hlt, cond_true, inI_nat hlt, cond_true, Int.toNat_natCast, List.getElem?_eq_getElem hlt, Option.bind_some]
        rw [hg, List.getElem?_eq_getElem hlt] at hgr
        simp only at hgr
        have hb := (h5 _ (List.getElem_mem hlt)).1.1.1
        unfold idP at hb
        have hne : ¬ (os[rankO os m.2.1]).1 = m.2.1 := by
          intro h
          rw [if_pos h] at hgr
          cases hgr
        rw [wrap_i64_in (n := (os[rankO os m.2.1]).1 - m.2.1) (by omega) (by omega)]
        simp only [Bool.false_eq_true, if_false, if_true, cmp_eq, sgn_zero]
        rw [decide_eq_false (by omega), cond_false]
      · rw [decide_eq_false (by omega), cond_false]
    | some o =>
      have hat := getO_at h6 hg
      have hlt := lt_of_get hat
      have hnm := getO_name hg
      have hb := (h5 o (getO_mem hg)).1.1.1
      unfold idP at hb
      rw [ltI hlt, cond_true, inI_nat hlt, cond_true, Int.toNat_natCast, hat, Option.bind_some, wrap_i64_in (n := o.1 - m.2.1) (by omega) (by omega)]
      simp only [Bool.false_eq_true, if_false, if_true, cmp_eq, sgn_zero]
      rw [decide_eq_true (by omega), cond_true, if_pos (.inl hk)]
  have ek : (m.1 == 1) = false := by simp [hk]
  rw [ek, cond_false]
  cases hg : getO os m.2.1 with
  | none =>
    simp only [cond_true, if_neg hk]
    cases (m.1 == 2) <;> rfl
  | some o =>
    have hat := getO_at h6 hg
    have hlt := lt_of_get hat
    have hnm := getO_name hg
    rw [posO_getO h6, hg]
    dsimp only [Option.map_some, atI]
    rw [inI_nat hlt, Int.toNat_natCast, hat]
    simp only [Option.bind_some, cond_true]
    by_cases hp : o.2.2.2.2.2.2.2.1 = 2
    rotate_left
    · have ep : (o.2.2.2.2.2.2.2.1 != 2) = true := by simp [hp]
      rw [ep, cond_true, if_pos (.inr hp)]
      simp only [cond_true]
      cases (m.1 == 2) <;> rfl
    have ep : (o.2.2.2.2.2.2.2.1 != 2) = false := by simp [hp]
    rw [ep, if_neg (by simp [hk, hp])]
    simp only [cond_false, set_get hlt, Option.bind_some, hup]
    unfold liveV
    have hput : ∀ x : OrdR, x.1 = o.1 → os.set (rankO os m.2.1) x = putO os x := by
      intro x hx
      rw [← hnm, ← hx]
      exact (putO_old h6 (f := x) (g := o) (by rw [hx, hnm]; exact hg)).symm
    rcases hmk with h | h | h
    · exact absurd h hk
    · have e2 : (m.1 == 2) = true := by simp [h]
      rw [e2, cond_true, if_neg (by omega)]
      by_cases hv : m.2.2.2.2.2.2.2.1 ≤ o.2.2.2.2.2.2.2.2.2.2.1
      · rw [decide_eq_true hv, cond_true, if_pos hv]
      · rw [decide_eq_false hv, cond_false, if_neg hv]
        cases acc with
        | false =>
          rw [if_neg (by simp), ← hput (verO o m) rfl]
          rfl
        | true =>
          by_cases hq : m.2.2.2.2.2.1 > o.2.2.2.2.2.2.1
          · rw [if_pos ⟨rfl, hq⟩, ← hput (chO o m) rfl]
            simp only [Bool.not_true, cond_false, Option.bind_some]
            rw [decide_eq_false (by omega), cond_false]
            simp only [set_get hlt, List.set_set, Option.bind_some]
            rfl
          · rw [if_neg (by simp; omega), ← hput (verO o m) rfl]
            simp only [Bool.not_true, cond_false, Option.bind_some]
            rw [decide_eq_true (by omega), cond_true]
            rfl
    · have e2 : (m.1 == 2) = false := by simp [h]
      rw [e2, cond_false, if_pos h]
      cases acc with
      | false => rfl
      | true =>
        rw [cond_true, if_pos rfl, ← hput (endO o) rfl]
        rfl
end Go.AI
