/- venue: the program does what is said (second part); the same; VenueRight. -/
import Derived.Test.YtfmbbknpnokijaaXVenD
namespace Go.AI
open IntKind

theorem venue_Send (v : VenR) (m : MsgR) : g_venue_Send (v, (m, ())) = some (sendV v m) := by
  unfold g_venue_Send sendV
  rw [venue_Right, venue_RightMsg]
  simp only [Option.bind_some]
  cases hr : rightV v with
  | false => simp
  | true =>
    have hR := (rightV_iff v).1 hr
    by_cases hm : msgP m
    · simp only [Bool.not_true, cond_false, hm, decide_true, Option.bind_some, and_self, not_true, if_false]
      by_cases h4 : v.1.length = 400
      · have e : ((v.1.length : Int) == 400) = true := by simp; omega
        rw [e, cond_true, if_pos h4]
      · have h5 := hR.inb
        have e : ((v.1.length : Int) == 400) = false := by simp; omega
        rw [e, cond_false, if_neg h4, clone_ok _ (by omega) (by omega), Option.bind_some, app_ok _ _ (by omega) (by omega)]
        rfl
    · simp [hm]

theorem none_ok {os : List OrdR} {id : Int} (hs : SrtO os) : (atI (posO os id) == (-1)) = (getO os id).isNone := by
  rw [posO_getO hs]
  cases hg : getO os id with
  | none => rfl
  | some o => simp [atI]

theorem venue_Fill (v : VenR) (id q : Int) (hv : ∀ o ∈ v.2.1, R_OrdR o) (hq : R_i64 q) : g_venue_Fill (v, (id, (q, ()))) = some (fillV v id q) := by
  unfold g_venue_Fill fillV
  rw [venue_Right, Option.bind_some]
  cases hr : rightV v with
  | false => simp
  | true =>
  have hR := (rightV_iff v).1 hr
  obtain ⟨ms, os, ns, ⟨⟩⟩ := v
  obtain ⟨h1, h2, h3, h4, h5, h6, h7⟩ := hR
  simp only at h1 h2 h3 h5 h6 h7 hv
  by_cases h0 : 1 ≤ q
  rotate_left
  · rw [if_pos (by simp; omega), Bool.not_true, Bool.false_or]
    dsimp only
    rw [show decide (q < 1) = true from decide_eq_true (by omega), cond_true]
  rw [if_neg (by simp [h0]), Bool.not_true, Bool.false_or]
  dsimp only
  rw [show decide (q < 1) = false from decide_eq_false (by omega), cond_false]
  rw [venue_Find _ _ (by simp only; omega)]
  simp only [Option.bind_some]
  rw [none_ok h6, clone_ok ms (by omega) (by omega), clone_ok os (by omega) (by omega), clone_ok ns (by omega) (by omega)]
  simp only [Option.bind_some]
  rw [venue_Find _ _ (by simp only; omega)]
  simp only [Option.bind_some]
  rw [live_ok h6]
  simp only [Option.bind_some]
  cases hg : getO os id with
  | none => rfl
  | some o =>
  have hat := getO_at h6 hg
  have hlt := lt_of_get hat
  have hnm := getO_name hg
  have ho := h5 o (getO_mem hg)
  have hro := hv o (getO_mem hg)
  obtain ⟨ho1, _⟩ := ho
  unfold ordP at ho1
  unfold R_OrdR R_i64 at hro
  unfold R_i64 at hq
  rw [posO_getO h6, hg]
  dsimp only [Option.map_some, atI, Option.isNone_some]
  rw [cond_false, inI_nat hlt, Int.toNat_natCast, hat]
  by_cases hp : o.2.2.2.2.2.2.2.1 = 2
  rotate_left
  · have ep : (o.2.2.2.2.2.2.2.1 != 2) = true := by simp [hp]
    rw [ep, cond_true, if_pos (.inl hp)]
  have ep : (o.2.2.2.2.2.2.2.1 != 2) = false := by simp [hp]
  simp only [ep, cond_false, cond_true, Option.bind_some]
  rw [wrap_of (n := o.2.2.2.2.1 - o.2.2.2.2.2.2.1) (by omega) (by omega)]
  by_cases hb : q > o.2.2.2.2.1 - o.2.2.2.2.2.2.1
  · rw [decide_eq_true hb, cond_true, if_pos (.inr hb)]
  rw [decide_eq_false hb, cond_false, if_neg (by simp only [not_or]; exact ⟨by simp [hp], hb⟩)]
  unfold g_venue_full
  simp only [Option.bind_some]
  by_cases hn : ns.length = 400
  · rw [if_pos hn, show ((ns.length : Int) == 400) = true by simp; omega, cond_true]
  rw [if_neg hn, show ((ns.length : Int) == 400) = false by simp; omega, cond_false]
  rw [wrap_of (n := o.2.2.2.2.2.2.1 + q) (by omega) (by omega), wrap_succ (n := ns.length) (by omega)]
  have hup : ∀ w i q p : Int, appX ns ((((ns.length + 1 : Nat) : Int), (w, (i, (q, (p, ()))))) :: []) 40 = some (upN ns w i q p) := fun w i q p => app_ok _ _ (by omega) (by omega)
  have hput : ∀ x : OrdR, x.1 = o.1 → os.set (rankO os id) x = putO os x := by
    intro x hx
    rw [← hnm, ← hx]
    exact (putO_old h6 (f := x) (g := o) (by rw [hx, hnm]; exact hg)).symm
  simp only [set_get hlt, Option.bind_some, hup, List.set_set]
  rw [← hput (fillO o q) rfl]
  unfold fillO
  by_cases hz : o.2.2.2.2.2.2.1 + q = o.2.2.2.2.1
  · rw [if_pos hz, show (o.2.2.2.2.2.2.1 + q == o.2.2.2.2.1) = true by simp [hz], cond_true, hnm]
  · rw [if_neg hz, show (o.2.2.2.2.2.2.1 + q == o.2.2.2.2.1) = false by simp [hz], cond_false, hnm]

theorem venue_Out (v : VenR) (id : Int) : g_venue_Out (v, (id, ())) = some (leaveV v id) := by
  unfold g_venue_Out leaveV
  rw [venue_Right, Option.bind_some]
  cases hr : rightV v with
  | false => simp
  | true =>
  have hR := (rightV_iff v).1 hr
  obtain ⟨ms, os, ns, ⟨⟩⟩ := v
  obtain ⟨h1, h2, h3, h4, h5, h6, h7⟩ := hR
  simp only at h1 h2 h3 h5 h6 h7
  rw [if_neg (by simp), Bool.not_true, cond_false]
  rw [venue_Find _ _ (by simp only; omega)]
  simp only [Option.bind_some]
  rw [none_ok h6, clone_ok ms (by omega) (by omega), clone_ok os (by omega) (by omega), clone_ok ns (by omega) (by omega)]
  simp only [Option.bind_some]
  rw [venue_Find _ _ (by simp only; omega)]
  simp only [Option.bind_some]
  rw [live_ok h6]
  simp only [Option.bind_some]
  cases hg : getO os id with
  | none => rfl
  | some o =>
  have hat := getO_at h6 hg
  have hlt := lt_of_get hat
  have hnm := getO_name hg
  rw [posO_getO h6, hg]
  dsimp only [Option.map_some, atI, Option.isNone_some]
  rw [cond_false, inI_nat hlt, Int.toNat_natCast, hat]
  by_cases hp : o.2.2.2.2.2.2.2.1 = 2
  rotate_left
  · have ep : (o.2.2.2.2.2.2.2.1 != 2) = true := by simp [hp]
    rw [ep, cond_true, if_pos hp]
  have ep : (o.2.2.2.2.2.2.2.1 != 2) = false := by simp [hp]
  rw [if_neg (by simp [hp])]
  simp only [ep, cond_false, cond_true, Option.bind_some]
  unfold g_venue_full
  simp only [Option.bind_some]
  by_cases hn : ns.length = 400
  · rw [if_pos hn, show ((ns.length : Int) == 400) = true by simp; omega, cond_true]
  rw [if_neg hn, show ((ns.length : Int) == 400) = false by simp; omega, cond_false]
  rw [wrap_succ (n := ns.length) (by omega)]
  have hup : ∀ w i q p : Int, appX ns ((((ns.length + 1 : Nat) : Int), (w, (i, (q, (p, ()))))) :: []) 40 = some (upN ns w i q p) := fun w i q p => app_ok _ _ (by omega) (by omega)
  have hput : ∀ x : OrdR, x.1 = o.1 → os.set (rankO os id) x = putO os x := by
    intro x hx
    rw [← hnm, ← hx]
    exact (putO_old h6 (f := x) (g := o) (by rw [hx, hnm]; exact hg)).symm
  simp only [set_get hlt, Option.bind_some, hup]
  rw [← hput (endO o) rfl]
  rfl

/-! ### The same -/
theorem all_true (n : Nat) : (List.range n).all (fun _ => true) = true := by
  rw [List.all_eq_true]
  intro _ _
  rfl
theorem same_msgs (l : List MsgR) (hl : l.length ≤ 2000) : g_ref16_SameMsgs (l, (l, ())) = some true := by
  unfold g_ref16_SameMsgs
  simp only [bne_self_eq_false, cond_false]
  rw [loop_all l.length (fun _ => true) false ?_ ?_]
  · rw [all_true]; rfl
  · intro i hi
    simp only [ltI hi, cond_true, getI_at hi, Option.bind_some, beq_self_eq_true, Bool.and_true, Bool.not_true, cond_false]
    rw [wrap_succ (by omega)]
  · simp only [ltI', cond_false]; rfl
theorem same_notes (l : List NotR) (hl : l.length ≤ 2000) : g_ref16_SameNotes (l, (l, ())) = some true := by
  unfold g_ref16_SameNotes
  simp only [bne_self_eq_false, cond_false]
  rw [loop_all l.length (fun _ => true) false ?_ ?_]
  · rw [all_true]; rfl
  · intro i hi
    simp only [ltI hi, cond_true, getI_at hi, Option.bind_some, beq_self_eq_true, Bool.and_true, Bool.not_true, cond_false]
    rw [wrap_succ (by omega)]
  · simp only [ltI', cond_false]; rfl
structure ShortV (v : VenR) (k : Nat) : Prop where
  inb : v.1.length ≤ k
  ods : v.2.1.length ≤ k
  nts : v.2.2.1.length ≤ k
theorem ref16_Same (v : VenR) (h : ShortV v 2000) : g_ref16_Same (v, (v, ())) = some true := by
  obtain ⟨ms, os, ns, ⟨⟩⟩ := v
  obtain ⟨h1, h2, h3⟩ := h
  simp only at h1 h2 h3
  unfold g_ref16_Same
  simp only [bne_self_eq_false, cond_false]
  rw [same_msgs ms h1, same_notes ns h3]
  simp only [Option.bind_some, Bool.not_true, cond_false]
  rw [loop_all os.length (fun _ => true) false ?_ ?_]
  · rw [all_true]; rfl
  · intro i hi
    simp only [ltI hi, cond_true, getI_at hi, Option.bind_some, beq_self_eq_true, Bool.and_true, Bool.not_true, cond_false]
    rw [wrap_succ (by omega)]
  · simp only [ltI', cond_false]; rfl

theorem putO_len (l : List OrdR) (f : OrdR) : (putO l f).length ≤ l.length + 1 := by
  induction l with
  | nil => simp [putO]
  | cons x l ih =>
    simp only [putO]
    split
    · simp only [List.length_cons]; omega
    · split <;> simp
theorem upN_len (ns : List NotR) (w i q p : Int) : (upN ns w i q p).length = ns.length + 1 := by simp [upN]
theorem ShortV.mono {v : VenR} {k : Nat} (h : ShortV v k) {j : Nat} (hj : k ≤ j) : ShortV v j := ⟨by have := h.inb; omega, by have := h.ods; omega, by have := h.nts; omega⟩
theorem sendV_len {v : VenR} {m : MsgR} {k : Nat} (h : ShortV v k) : ShortV (sendV v m).1 (k + 1) := by
  unfold sendV
  split
  · exact h.mono (by omega)
  · split
    · exact h.mono (by omega)
    · obtain ⟨h1, h2, h3⟩ := h
      exact ⟨by simp; omega, by simp only; omega, by simp only; omega⟩
theorem bodyV_len {os : List OrdR} {ns : List NotR} (m : MsgR) (acc : Bool) : (bodyV os ns m acc).1.length ≤ os.length + 1 ∧ (bodyV os ns m acc).2.1.length ≤ ns.length + 1 := by
  unfold bodyV liveV
  have hp := putO_len os
  repeat' split
  all_goals simp only [upN_len]
  all_goals first | (refine ⟨hp _, ?_⟩; omega) | (constructor <;> omega)
theorem takeV_len {v : VenR} {acc : Bool} {k : Nat} (h : ShortV v k) : ShortV (takeV v acc).1 (k + 1) := by
  unfold takeV
  split
  · exact h.mono (by omega)
  · split
    · exact h.mono (by omega)
    · rename_i m ms hms
      split
      · exact h.mono (by omega)
      · obtain ⟨h1, h2, h3⟩ := h
        rw [hms, List.length_cons] at h1
        have := bodyV_len (os := v.2.1) (ns := v.2.2.1) m acc
        exact ⟨by simp only; omega, by simp only; omega, by simp only; omega⟩
theorem fillV_len {v : VenR} {id q : Int} {k : Nat} (h : ShortV v k) : ShortV (fillV v id q).1 (k + 1) := by
  unfold fillV
  split
  · exact h.mono (by omega)
  · split
    · exact h.mono (by omega)
    · rename_i o ho
      split
      · exact h.mono (by omega)
      · split
        · exact h.mono (by omega)
        · obtain ⟨h1, h2, h3⟩ := h
          have := putO_len v.2.1 (fillO o q)
          exact ⟨by simp only; omega, by simp only; omega, by simp only [upN_len]; omega⟩
theorem leaveV_len {v : VenR} {id : Int} {k : Nat} (h : ShortV v k) : ShortV (leaveV v id).1 (k + 1) := by
  unfold leaveV
  split
  · exact h.mono (by omega)
  · split
    · exact h.mono (by omega)
    · rename_i o ho
      split
      · exact h.mono (by omega)
      · split
        · exact h.mono (by omega)
        · obtain ⟨h1, h2, h3⟩ := h
          have := putO_len v.2.1 (endO o)
          exact ⟨by simp only; omega, by simp only; omega, by simp only [upN_len]; omega⟩

/-! ### The fixed answer -/
def emV : VenR := ([], ([], ([], ())))
def m0V : MsgR := (1, (4, (0, (0, (1, (9, (2, (0, (0, ())))))))))
def o0V : OrdR := newO m0V true
def o1V : OrdR := fillO o0V 3
def n1V : NotR := (1, (1, (4, (0, (0, ())))))
def n2V : NotR := (2, (3, (4, (3, (0, ())))))
theorem R_of {n : Int} (h : decide (fit n) = true) : R_i64 n := (of_decide_eq_true h : fit n)
theorem ok_one {o : OrdR} (h : R_OrdR o) : ∀ x ∈ [o], R_OrdR x := by
  intro x hx
  simp at hx
  subst hx
  exact h
theorem awake_ok : g_law16_awake () = some true := by
  unfold g_law16_awake
  rw [show g_venue_Send (([], ([], ([], ()))), ((1, (4, (0, (0, (1, (9, (2, (0, (0, ()))))))))), ())) = some (([m0V], ([], ([], ()))), (0, ())) from (venue_Send emV m0V).trans (by kernel_rfl)]
  simp only [Option.bind_some]
  rw [show g_venue_Send (([m0V], ([], ([], ()))), ((1, (4, (0, (0, (1, (9, (2, (0, (0, ()))))))))), ())) = some (([m0V, m0V], ([], ([], ()))), (0, ())) from (venue_Send ([m0V], ([], ([], ()))) m0V).trans (by kernel_rfl)]
  simp only [Option.bind_some]
  rw [show g_venue_Take (([m0V, m0V], ([], ([], ()))), (true, ())) = some (([m0V], ([o0V], ([n1V], ()))), (0, ())) from (venue_Take ([m0V, m0V], ([], ([], ()))) true).trans (by kernel_rfl)]
  simp only [Option.bind_some]
  have r0 : R_OrdR o0V := by unfold R_OrdR R_i64; decide
  have r1 : R_OrdR o1V := by unfold R_OrdR R_i64; decide
  rw [show g_venue_Fill (([m0V], ([o0V], ([n1V], ()))), (4, (3, ()))) = some (([m0V], ([o1V], ([n1V, n2V], ()))), (0, ())) from (venue_Fill ([m0V], ([o0V], ([n1V], ()))) 4 3 (ok_one r0) (R_of (by decide))).trans (by kernel_rfl)]
  simp only [Option.bind_some]
  rw [show g_venue_Take (([m0V], ([o1V], ([n1V, n2V], ()))), (true, ())) = some (([], ([o1V], ([n1V, n2V], ()))), (0, ())) from (venue_Take ([m0V], ([o1V], ([n1V, n2V], ()))) true).trans (by kernel_rfl)]
  simp only [Option.bind_some]
  rw [show g_venue_Take (([], ([o1V], ([n1V, n2V], ()))), (true, ())) = some (([], ([o1V], ([n1V, n2V], ()))), (7, ())) from (venue_Take ([], ([o1V], ([n1V, n2V], ()))) true).trans (by kernel_rfl)]
  simp only [Option.bind_some]
  rw [show g_venue_Fill (([], ([o1V], ([n1V, n2V], ()))), (4, (7, ()))) = some (([], ([o1V], ([n1V, n2V], ()))), (8, ())) from (venue_Fill ([], ([o1V], ([n1V, n2V], ()))) 4 7 (ok_one r1) (R_of (by decide))).trans (by kernel_rfl)]
  simp only [Option.bind_some]
  rw [show g_venue_Find (([], ([o1V], ([n1V, n2V], ()))), (4, ())) = some 0 from (venue_Find ([], ([o1V], ([n1V, n2V], ()))) 4 (by simp)).trans (by kernel_rfl)]
  rw [show g_venue_Right (([], ([o1V], ([n1V, n2V], ()))), ()) = some true from (venue_Right ([], ([o1V], ([n1V, n2V], ())))).trans (by kernel_rfl)]
  rfl

/-! ### VenueRight -/
abbrev shOrdQ : Sh := .cons (.int .i64) (.cons (.int .i64) (.cons (.int .i64) (.cons (.int .i64) (.cons (.int .i64) (.cons (.int .i64) (.cons (.int .i64) (.cons (.int .i64) (.cons (.int .i64) (.cons (.int .i64) (.cons (.int .i64) (.cons .bool .nil)))))))))))
theorem rg_i64 {x : Int} (h : (Lit.int .i64 x).wf = true) : -9223372036854775808 ≤ x ∧ x < 9223372036854775808 := wf_i64 h
theorem rg_ord {o : OrdR} (h : Rg shOrder o) : R_OrdR o := by
  obtain ⟨h1, h2, h3, h4, h5, h6, h7, h8, h9, h10, h11, _⟩ := h
  exact ⟨rg_i64 h1, rg_i64 h2, rg_i64 h3, rg_i64 h4, rg_i64 h5, rg_i64 h6, rg_i64 h7, rg_i64 h8, rg_i64 h9, rg_i64 h10, rg_i64 h11⟩
theorem rg_ven {v : VenR} (h : Rg shVenue v) : ∀ o ∈ v.2.1, R_OrdR o := by
  obtain ⟨_, ⟨_, h2⟩, _⟩ := h
  intro o ho
  have hm : List.Mem o v.2.1 := ho
  exact rg_ord (h2 o hm)
theorem pure_VenueRight (a : VenR × (MsgR × (Bool × (Int × (Int × Unit))))) (h : Rg (consS [shVenue, shMsg, .bool, (.int .i64), (.int .i64)]) a) : g_law16_VenueRight a = some true := by
  obtain ⟨v, m, acc, id, q, ⟨⟩⟩ := a
  obtain ⟨hv, _, _, _, hq, _⟩ := h
  have hv := rg_ven hv
  have hq : R_i64 q := rg_i64 hq
  unfold g_law16_VenueRight g_ref16_Short
  rw [awake_ok]
  simp only [Option.bind_some, Bool.not_true, cond_false]
  by_cases hs : ShortV v 450
  rotate_left
  · have : (((decide ((v.1.length : Int) ≤ 450)) && (decide ((v.2.1.length : Int) ≤ 450))) && (decide ((v.2.2.1.length : Int) ≤ 450))) = false := by
      cases hc : (((decide ((v.1.length : Int) ≤ 450)) && (decide ((v.2.1.length : Int) ≤ 450))) && (decide ((v.2.2.1.length : Int) ≤ 450))) with
      | false => rfl
      | true =>
        simp only [Bool.and_eq_true, decide_eq_true_eq] at hc
        exact absurd ⟨by omega, by omega, by omega⟩ hs
    rw [this]
    rfl
  have : (((decide ((v.1.length : Int) ≤ 450)) && (decide ((v.2.1.length : Int) ≤ 450))) && (decide ((v.2.2.1.length : Int) ≤ 450))) = true := by
    obtain ⟨h1, h2, h3⟩ := hs
    simp only [Bool.and_eq_true, decide_eq_true_eq]
    omega
  rw [this]
  have hf : v.2.1.length ≤ 1000 := by have := hs.ods; omega
  rw [venue_Right, ref16_Right, venue_RightMsg, ref16_RightMsg, venue_Find v id hf, ref16_Find v id hf]
  simp only [Option.bind_some, bne_self_eq_false, Bool.not_true, cond_false]
  rw [venue_Send, ref16_Send, venue_Take, ref16_Take, venue_Fill v id q hv hq, ref16_Fill v id q hv hq, venue_Out, ref16_Out]
  simp only [Option.bind_some, bne_self_eq_false, Bool.not_true, cond_false, beq_self_eq_true, cond_true]
  rw [ref16_Same _ ((sendV_len hs).mono (by omega)), ref16_Same _ ((takeV_len hs).mono (by omega)), ref16_Same _ ((fillV_len hs).mono (by omega)), ref16_Same _ ((leaveV_len hs).mono (by omega))]
  rfl
end Go.AI
