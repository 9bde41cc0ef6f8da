/- venue: an order at a venue, and who follows it. -/
import Derived.Test.YtfmbbknpnokijaaXVenH
namespace Go.AI
open IntKind

/-- What is in a venue of one order, and what its follower knows, who has yet to read some notes. -/
inductive Sta (ms : List MsgR) (os : List OrdR) (ns u : List NotR) (o : OrdR) : Prop where
  | sent (m : MsgR) (h1 : ms = [m]) (h2 : m.1 = 1) (h3 : m.2.1 = 1) (h4 : m.2.2.2.2.2.1 = o.2.2.2.2.1) (h5 : m.2.2.2.2.2.2.1 = o.2.2.2.2.2.1) (h6 : os = []) (h7 : ns = []) (h8 : o.2.2.2.2.2.2.2.1 = 1) : Sta ms os ns u o
  | known (x w : OrdR) (h1 : os = [x]) (h2 : x.1 = 1) (h3 : Rn o u w) (h4 : w.2.2.2.2.1 = x.2.2.2.2.1) (h5 : w.2.2.2.2.2.1 = x.2.2.2.2.2.1) (h6 : w.2.2.2.2.2.2.1 = x.2.2.2.2.2.2.1) (h7 : w.2.2.2.2.2.2.2.1 = x.2.2.2.2.2.2.2.1)
      (h8 : x.2.2.2.2.2.2.2.2.2.2.1 ≤ o.2.2.2.2.2.2.2.2.2.2.1)
      (h9 : (ms = [] ∧ ¬ pend w) ∨ ∃ m : MsgR, ms = [m] ∧ m.1 = 2 ∧ m.2.1 = 1 ∧ (w.2.2.2.2.2.2.2.1 = 2 → w.2.2.2.2.2.2.2.2.1 = m.2.2.2.2.2.1 ∧ w.2.2.2.2.2.2.2.2.2.1 = m.2.2.2.2.2.2.1) ∧ x.2.2.2.2.2.2.2.2.2.2.1 < m.2.2.2.2.2.2.2.1 ∧ m.2.2.2.2.2.2.2.1 ≤ o.2.2.2.2.2.2.2.2.2.2.1 ∧ (pend o ∨ o.2.2.2.2.2.2.2.1 = 3) ∧ ∀ n ∈ u, n.2.1 ≠ 5 ∧ n.2.1 ≠ 6) : Sta ms os ns u o
structure Fol (v : VenR) (o : OrdR) (rd : Nat) : Prop where
  good : GoodV v
  rn : ∀ n ∈ v.2.2.1, R_NotR n
  op : ordP o
  oR : R_OrdR o
  o1 : o.1 = 1
  ask : o.2.2.2.2.2.2.2.2.2.2.2.1 = false
  rdl : rd ≤ v.2.2.1.length
  st : Sta v.1 v.2.1 v.2.2.1 (v.2.2.1.drop rd) o

theorem R_up {ns : List NotR} {w id q p : Int} (h : ∀ n ∈ ns, R_NotR n) (hl : ns.length ≤ 400) (hw : R_i64 w) (hid : R_i64 id) (hq : R_i64 q) (hp : R_i64 p) : ∀ n ∈ upN ns w id q p, R_NotR n := by
  intro n hn
  unfold upN at hn
  rcases List.mem_append.1 hn with hn | hn
  · exact h n hn
  · simp only [List.mem_singleton] at hn
    subst hn
    exact ⟨by unfold noteR R_i64; dsimp only; omega, hw, hid, hq, hp⟩
theorem r_small {n : Int} (h0 : 0 ≤ n) (h1 : n ≤ 10) : R_i64 n := by unfold R_i64; omega
theorem Did.rn {v w : VenR} (h : Did v w) (g : GoodV v) (hr : ∀ n ∈ v.2.2.1, R_NotR n) : ∀ n ∈ w.2.2.1, R_NotR n := by
  have hl := g.rt.nts
  cases h with
  | nil => exact hr
  | new m acc ms hm hms hl' hk hg h4 hn => exact R_up hr hl (by cases acc <;> exact r_small (by decide) (by decide)) (g.rm m hm).1 r_zero r_zero
  | fin id o ms hms hl' hg hp hn => exact R_up hr hl (r_small (by decide) (by decide)) (g.ro o (getO_mem hg)).1 r_zero r_zero
  | ver m o ms hm hms hl' hg hp hv hn => exact R_up hr hl (r_small (by decide) (by decide)) (g.ro o (getO_mem hg)).1 r_zero r_zero
  | ch m o ms hm hms hl' hg hk hk3 hp hv hq hn =>
    obtain ⟨_, _, _, _, q5, q6, _⟩ := g.rm m hm
    exact R_up hr hl (r_small (by decide) (by decide)) (g.ro o (getO_mem hg)).1 q5 q6
  | fil id o q hg hp h1 hq hn =>
    have hro := g.ro o (getO_mem hg)
    obtain ⟨⟨_, k2, k3, _⟩, _⟩ := g.rt.set o (getO_mem hg)
    obtain ⟨r1, _, _, _, r5, _⟩ := hro
    exact R_up hr hl (r_small (by decide) (by decide)) r1 (by unfold R_i64 at *; omega) r_zero
theorem Did.up {v w : VenR} (h : Did v w) : v.2.2.1.length ≤ w.2.2.1.length := by
  cases h <;> simp [upN]
theorem drop_up {ns : List NotR} {rd : Nat} (h : rd ≤ ns.length) (w id q p : Int) : (upN ns w id q p).drop rd = ns.drop rd ++ [noteR ns w id q p] := by
  unfold upN
  rw [List.drop_append_of_le_length h]
theorem ev_up {ns : List NotR} (hl : ns.length < 400) {w id q p : Int} (hid : idP id) (hw : (w = 3 ∧ 1 ≤ q ∧ p = 0) ∨ (w = 5 ∧ 1 ≤ q ∧ 1 ≤ p) ∨ ((w = 1 ∨ w = 2 ∨ w = 4 ∨ w = 6) ∧ q = 0 ∧ p = 0)) : evP (noteR ns w id q p) := by
  unfold evP noteR
  exact ⟨by dsimp only; omega, by dsimp only; omega, hid, hw⟩
theorem id_one : idP 1 := by unfold idP; omega
theorem pend_fil {o : OrdR} {n : NotR} : pend (filO o n) ↔ pend o := Iff.rfl

theorem Fol.did {v w : VenR} {o : OrdR} {rd : Nat} (f : Fol v o rd) (h : Did v w) (st : Sta w.1 w.2.1 w.2.2.1 (w.2.2.1.drop rd) o) : Fol w o rd :=
  ⟨h.good f.good, h.rn f.good f.rn, f.op, f.oR, f.o1, f.ask, by have := h.up; have := f.rdl; omega, st⟩
theorem getO_one {x : OrdR} (h : x.1 = 1) : getO [x] 1 = some x := by
  simp only [getO]
  rw [if_pos h]
theorem putO_one {x y : OrdR} (h : x.1 = y.1) : putO [x] y = [y] := by
  simp only [putO]
  rw [if_neg (by omega), if_pos h]

theorem fol_take {v : VenR} {o : OrdR} {rd : Nat} (f : Fol v o rd) (acc : Bool) : Fol (takeV v acc).1 o rd := by
  refine f.did (did_take v acc) ?_
  have hr := (rightV_iff v).2 f.good.rt
  have hnt := f.good.rt.nts
  have hset := f.good.rt.set
  have hrd := f.rdl
  have hmsg := f.good.rt.msg
  obtain ⟨ms, os, ns, ⟨⟩⟩ := v
  unfold takeV
  rw [hr, if_neg (by simp)]
  dsimp only at hnt hset hrd hmsg ⊢
  have st := f.st
  dsimp only at st
  cases st with
  | sent m h1 h2 h3 h4 h5 h6 h7 h8 =>
    subst h1 h6 h7
    dsimp only
    rw [if_neg (by simp)]
    unfold bodyV
    dsimp only
    rw [show getO [] m.2.1 = none from rfl]
    dsimp only
    rw [if_pos h2]
    dsimp only
    obtain ⟨a1, a2, a3, a4, a5, a6⟩ := f.op
    have a6 : o.2.2.2.2.2.2.1 = 0 ∧ o.2.2.2.2.2.2.2.2.2.2.1 = 0 ∧ ¬ pend o := by
      rcases a6 with a | a | a
      · exact a.2
      · omega
      · omega
    have hrd0 : rd = 0 := by simpa using hrd
    subst hrd0
    have hev : ∀ w : Int, w = 1 ∨ w = 2 → evP (noteR [] w m.2.1 0 0) := fun w hw => ev_up (by simp) (by rw [h3]; exact id_one) (.inr (.inr ⟨by omega, rfl, rfl⟩))
    have ho1 := f.o1
    cases acc with
    | true =>
      exact .known (newO m true) (ackO o) rfl h3 (.cons (takeF_of f.op (hev 1 (.inl rfl)) (by rw [ho1]; exact h3) (.ack h8 rfl)) (.nil _)) h4.symm h5.symm (by unfold ackO newO; exact a6.1) rfl (by unfold newO; dsimp only; omega) (.inl ⟨rfl, a6.2.2⟩)
    | false =>
      exact .known (newO m false) (doneF o) rfl h3 (.cons (takeF_of f.op (hev 2 (.inr rfl)) (by rw [ho1]; exact h3) (.rej h8 rfl)) (.nil _)) h4.symm h5.symm (by unfold doneF newO; exact a6.1) rfl (by unfold newO; dsimp only; omega) (.inl ⟨rfl, fun hp => by unfold pend doneF at hp; simp at hp⟩)
  | known x w h1 h2 h3 h4 h5 h6 h7 h8 h9 =>
    obtain ⟨hw, hw1⟩ := h3.ord f.op
    rw [f.o1] at hw1
    rcases h9 with ⟨e, hp⟩ | ⟨m, e, k1, k2, k3, k4, k5, k6, k7⟩
    · subst e
      exact .known x w h1 h2 h3 h4 h5 h6 h7 h8 (.inl ⟨rfl, hp⟩)
    · subst e h1
      dsimp only
      split
      · exact .known x w rfl h2 h3 h4 h5 h6 h7 h8 (.inr ⟨m, rfl, k1, k2, k3, k4, k5, k6, k7⟩)
      · rename_i hc
        simp only [not_or] at hc
        have hc := hc.1
        unfold bodyV
        rw [k2, getO_one h2]
        dsimp only
        have hx := hset x List.mem_cons_self
        have hmp := hmsg m List.mem_cons_self
        have hmq : 1 ≤ m.2.2.2.2.2.1 ∧ 1 ≤ m.2.2.2.2.2.2.1 := by
          obtain ⟨_, _, _, _, _, _, _, _, h⟩ := hmp
          omega
        by_cases hph : x.2.2.2.2.2.2.2.1 = 2
        rotate_left
        · rw [if_pos (.inr hph)]
          refine .known x w rfl h2 h3 h4 h5 h6 h7 h8 (.inl ⟨rfl, ?_⟩)
          obtain ⟨_, _, _, _, _, a6⟩ := hw
          have := hx.2.1
          rcases a6 with a | a | a
          · omega
          · omega
          · exact a.2
        · rw [if_neg (by simp [k1, hph])]
          unfold liveV
          rw [if_neg (by omega), if_neg (by omega)]
          have hpw : pend w := by
            obtain ⟨q1, q2⟩ := k3 (by omega)
            unfold pend
            omega
          obtain ⟨q1, q2⟩ := k3 (by omega)
          by_cases hq : acc = true ∧ m.2.2.2.2.2.1 > x.2.2.2.2.2.2.1
          · rw [if_pos hq]
            dsimp only
            rw [putO_one (x := x) (y := chO x m) rfl, drop_up hrd]
            have hev : evP (noteR ns 5 x.1 m.2.2.2.2.2.1 m.2.2.2.2.2.2.1) := ev_up (by omega) (by rw [h2]; exact id_one) (.inr (.inl ⟨rfl, hmq⟩))
            refine .known (chO x m) (repO w (noteR ns 5 x.1 m.2.2.2.2.2.1 m.2.2.2.2.2.2.1)) rfl h2 (h3.snoc (takeF_of hw hev (by rw [hw1]; exact h2) (.rep (by omega) rfl hpw q1.symm q2.symm (by unfold noteR; dsimp only; omega)))) rfl rfl h6 h7 (by unfold chO; exact k5) (.inl ⟨rfl, fun hp => by unfold pend repO at hp; simp at hp⟩)
          · rw [if_neg hq]
            dsimp only
            rw [putO_one (x := x) (y := verO x m) rfl, drop_up hrd]
            have hev : evP (noteR ns 6 x.1 0 0) := ev_up (by omega) (by rw [h2]; exact id_one) (.inr (.inr ⟨by omega, rfl, rfl⟩))
            refine .known (verO x m) (refO w) rfl h2 (h3.snoc (takeF_of hw hev (by rw [hw1]; exact h2) (.ref (by omega) rfl hpw))) h4 h5 h6 h7 (by unfold verO; exact k5) (.inl ⟨rfl, fun hp => by unfold pend refO at hp; simp at hp⟩)

theorem fol_fill {v : VenR} {o : OrdR} {rd : Nat} (f : Fol v o rd) (q : Int) : Fol (fillV v 1 q).1 o rd := by
  refine f.did (did_fill v 1 q) ?_
  have hr := (rightV_iff v).2 f.good.rt
  have hnt := f.good.rt.nts
  have hset := f.good.rt.set
  have hrd := f.rdl
  have st := f.st
  obtain ⟨ms, os, ns, ⟨⟩⟩ := v
  unfold fillV
  rw [hr]
  dsimp only at hnt hset hrd st ⊢
  by_cases h1q : 1 ≤ q
  rotate_left
  · rw [if_pos (by simp [h1q])]
    exact st
  rw [if_neg (by simp [h1q])]
  cases st with
  | sent m h1 h2 h3 h4 h5 h6 h7 h8 =>
    subst h6
    exact .sent m h1 h2 h3 h4 h5 rfl h7 h8
  | known x w h1 h2 h3 h4 h5 h6 h7 h8 h9 =>
    obtain ⟨hw, hw1⟩ := h3.ord f.op
    rw [f.o1] at hw1
    subst h1
    rw [getO_one h2]
    dsimp only
    split
    · exact .known x w rfl h2 h3 h4 h5 h6 h7 h8 h9
    · rename_i hc
      simp only [not_or, ne_eq, Classical.not_not] at hc
      obtain ⟨hph, hq⟩ := hc
      split
      · exact .known x w rfl h2 h3 h4 h5 h6 h7 h8 h9
      · rename_i hn
        dsimp only
        rw [putO_one (x := x) (y := fillO x q) rfl, drop_up hrd]
        have hev : evP (noteR ns 3 x.1 q 0) := ev_up (by omega) (by rw [h2]; exact id_one) (.inl ⟨rfl, h1q, rfl⟩)
        have hx := (hset x List.mem_cons_self).1
        have h7' : w.2.2.2.2.2.2.2.1 = 2 := by omega
        by_cases hz : x.2.2.2.2.2.2.1 + q = x.2.2.2.2.1
        · refine .known (fillO x q) (allO w (noteR ns 3 x.1 q 0)) rfl h2 (h3.snoc (takeF_of hw hev (by rw [hw1]; exact h2) (.all h7' rfl (by unfold noteR; dsimp only; omega)))) h4 h5 (by unfold allO fillO noteR; dsimp only; omega) (by unfold allO fillO; dsimp only; rw [if_pos hz]) h8 ?_
          rcases h9 with ⟨e, hp⟩ | ⟨m, e, k1, k2, k3, k4, k5, k6, k7⟩
          · exact .inl ⟨e, fun hp => by unfold pend allO at hp; simp at hp⟩
          · refine .inr ⟨m, e, k1, k2, fun hh => by unfold allO at hh; simp at hh, k4, k5, k6, fun n hn => ?_⟩
            rcases List.mem_append.1 hn with hn | hn
            · exact k7 n hn
            · simp only [List.mem_singleton] at hn
              subst hn
              unfold noteR
              simp
        · refine .known (fillO x q) (filO w (noteR ns 3 x.1 q 0)) rfl h2 (h3.snoc (takeF_of hw hev (by rw [hw1]; exact h2) (.fil h7' rfl (by unfold noteR; dsimp only; omega)))) h4 h5 (by unfold filO fillO noteR; dsimp only; omega) (by unfold filO fillO; dsimp only; rw [if_neg hz]; exact h7) h8 ?_
          rcases h9 with ⟨e, hp⟩ | ⟨m, e, k1, k2, k3, k4, k5, k6, k7⟩
          · exact .inl ⟨e, hp⟩
          · refine .inr ⟨m, e, k1, k2, k3, k4, k5, k6, fun n hn => ?_⟩
            rcases List.mem_append.1 hn with hn | hn
            · exact k7 n hn
            · simp only [List.mem_singleton] at hn
              subst hn
              unfold noteR
              simp

theorem fol_leave {v : VenR} {o : OrdR} {rd : Nat} (f : Fol v o rd) : Fol (leaveV v 1).1 o rd := by
  refine f.did (did_leave v 1) ?_
  have hr := (rightV_iff v).2 f.good.rt
  have hnt := f.good.rt.nts
  have hrd := f.rdl
  have st := f.st
  obtain ⟨ms, os, ns, ⟨⟩⟩ := v
  unfold leaveV
  rw [hr, if_neg (by simp)]
  dsimp only at hnt hrd st ⊢
  cases st with
  | sent m h1 h2 h3 h4 h5 h6 h7 h8 =>
    subst h6
    exact .sent m h1 h2 h3 h4 h5 rfl h7 h8
  | known x w h1 h2 h3 h4 h5 h6 h7 h8 h9 =>
    obtain ⟨hw, hw1⟩ := h3.ord f.op
    rw [f.o1] at hw1
    subst h1
    rw [getO_one h2]
    dsimp only
    split
    · exact .known x w rfl h2 h3 h4 h5 h6 h7 h8 h9
    · rename_i hph
      simp only [ne_eq, Classical.not_not] at hph
      split
      · exact .known x w rfl h2 h3 h4 h5 h6 h7 h8 h9
      · rename_i hn
        dsimp only
        rw [putO_one (x := x) (y := endO x) rfl, drop_up hrd]
        have hev : evP (noteR ns 4 x.1 0 0) := ev_up (by omega) (by rw [h2]; exact id_one) (.inr (.inr ⟨by omega, rfl, rfl⟩))
        refine .known (endO x) (doneF w) rfl h2 (h3.snoc (takeF_of hw hev (by rw [hw1]; exact h2) (.out (by omega) rfl))) h4 h5 h6 rfl h8 ?_
        rcases h9 with ⟨e, hp⟩ | ⟨m, e, k1, k2, k3, k4, k5, k6, k7⟩
        · exact .inl ⟨e, fun hp => by unfold pend doneF at hp; simp at hp⟩
        · refine .inr ⟨m, e, k1, k2, fun hh => by unfold doneF at hh; simp at hh, k4, k5, k6, fun n hn => ?_⟩
          rcases List.mem_append.1 hn with hn | hn
          · exact k7 n hn
          · simp only [List.mem_singleton] at hn
            subst hn
            unfold noteR
            simp

/-- A note is read. -/
theorem fol_read {v : VenR} {o : OrdR} {rd : Nat} (f : Fol v o rd) (hlt : rd < v.2.2.1.length) : ∃ o', takeF o v.2.2.1[rd] = (o', (0, ())) ∧ Fol v o' (rd + 1) ∧ o'.2.2.2.2.2.2.2.2.2.2.1 = o.2.2.2.2.2.2.2.2.2.2.1 := by
  have st := f.st
  have hrn := f.rn _ (List.getElem_mem hlt)
  cases st with
  | sent m h1 h2 h3 h4 h5 h6 h7 h8 => rw [h7] at hlt; simp at hlt
  | known x w h1 h2 h3 h4 h5 h6 h7 h8 h9 =>
    rw [drop_at hlt] at h3 h9
    generalize v.2.2.1[rd] = n at h3 h9 hrn
    cases h3 with
    | @cons _ o' _ _ _ ht t =>
    obtain ⟨a1, a2, a3, a4⟩ := takeF_inv ht
    have kp := a4.kept a1 f.oR a2 hrn
    refine ⟨o', ht, ⟨f.good, f.rn, kp.op, kp.oR, kp.id.trans f.o1, kp.ask.trans f.ask, hlt, .known x w h1 h2 t h4 h5 h6 h7 (by rw [kp.ver]; exact h8) ?_⟩, kp.ver⟩
    rcases h9 with ⟨e, hp⟩ | ⟨m, e, k1, k2, k3, k4, k5, k6, k7⟩
    · exact .inl ⟨e, hp⟩
    · refine .inr ⟨m, e, k1, k2, k3, k4, by rw [kp.ver]; exact k5, ?_, fun y hy => k7 y (List.mem_cons_of_mem _ hy)⟩
      have hn := k7 n List.mem_cons_self
      rcases k6 with k6 | k6
      · cases a4 with
        | ack g1 g2 => exact .inl k6
        | rej g1 g2 => exact .inr rfl
        | fil g1 g2 g3 => exact .inl k6
        | all g1 g2 g3 => exact .inr rfl
        | out g1 g2 => exact .inr rfl
        | rep g1 g2 g3 g4 g5 g6 => exact absurd g2 hn.1
        | ref g1 g2 g3 => exact absurd g2 hn.2
      · cases a4 with
        | ack g1 g2 => omega
        | rej g1 g2 => omega
        | fil g1 g2 g3 => omega
        | all g1 g2 g3 => omega
        | out g1 g2 => omega
        | rep g1 g2 g3 g4 g5 g6 => omega
        | ref g1 g2 g3 => omega
end Go.AI
