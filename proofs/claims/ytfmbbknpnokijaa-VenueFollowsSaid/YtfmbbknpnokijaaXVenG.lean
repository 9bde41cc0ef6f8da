/- venue: VenueFilled. -/
import Derived.Test.YtfmbbknpnokijaaXVenF
namespace Go.AI
open IntKind

abbrev ScR : Type := Int × (Int × Bool)
def stepN (s : ScR) (n : NotR) : ScR := if n.2.1 = 1 then (s.1, (s.2.1 + 1, false)) else if n.2.1 = 2 then (s.1, (s.2.1 + 1, true)) else if n.2.1 = 3 then (s.1 + n.2.2.2.1, s.2) else if n.2.1 = 4 then (s.1, (s.2.1, true)) else s
def scanN (id : Int) : List NotR → ScR → Option ScR
  | [], s => some s
  | n :: l, s => if n.2.2.1 ≠ id then scanN id l s else if s.2.2 = true ∨ (s.2.1 = 0 ∧ 2 < n.2.1) then none else scanN id l (stepN s n)
theorem scanN_append (id : Int) : ∀ (a b : List NotR) (s : ScR), scanN id (a ++ b) s = (scanN id a s).bind fun s => scanN id b s
  | [], _, _ => rfl
  | n :: a, b, s => by
    simp only [List.cons_append, scanN]
    split
    · exact scanN_append id a b s
    · split
      · rfl
      · exact scanN_append id a b _
theorem scan_mono (id : Int) : ∀ (l : List NotR) (s t : ScR), (∀ n ∈ l, evP n) → scanN id l s = some t → s.1 ≤ t.1 ∧ s.2.1 ≤ t.2.1
  | [], s, t, _, h => by cases h; exact ⟨Int.le_refl _, Int.le_refl _⟩
  | n :: l, s, t, hev, h => by
    simp only [scanN] at h
    have hev' : ∀ n ∈ l, evP n := fun m hm => hev m (List.mem_cons_of_mem _ hm)
    split at h
    · exact scan_mono id l s t hev' h
    · split at h
      · cases h
      · have := scan_mono id l _ t hev' h
        obtain ⟨_, _, _, he⟩ := hev n List.mem_cons_self
        unfold stepN at this
        split at this
        · dsimp only at this; omega
        · split at this
          · dsimp only at this; omega
          · split at this
            · dsimp only at this; omega
            · split at this
              · exact this
              · exact this

def OkN (os : List OrdR) (ns : List NotR) : Prop := ∀ id, ∃ s, scanN id ns (0, (0, false)) = some s ∧ match getO os id with
  | none => s = (0, (0, false))
  | some o => s.2.1 = 1 ∧ s.1 = o.2.2.2.2.2.2.1 ∧ (o.2.2.2.2.2.2.2.1 = 3 ↔ (s.2.2 = true ∨ s.1 = o.2.2.2.2.1))

theorem OkN.put {os : List OrdR} {ns : List NotR} (h : OkN os ns) (hs : SrtO os) {o : OrdR} {w q p : Int}
    (hnew : ∀ s, scanN o.1 ns (0, (0, false)) = some s → (match getO os o.1 with
      | none => s = (0, (0, false))
      | some o => s.2.1 = 1 ∧ s.1 = o.2.2.2.2.2.2.1 ∧ (o.2.2.2.2.2.2.2.1 = 3 ↔ (s.2.2 = true ∨ s.1 = o.2.2.2.2.1))) → ¬ (s.2.2 = true ∨ (s.2.1 = 0 ∧ 2 < w)) ∧ (stepN s (noteR ns w o.1 q p)).2.1 = 1 ∧ (stepN s (noteR ns w o.1 q p)).1 = o.2.2.2.2.2.2.1 ∧ (o.2.2.2.2.2.2.2.1 = 3 ↔ ((stepN s (noteR ns w o.1 q p)).2.2 = true ∨ (stepN s (noteR ns w o.1 q p)).1 = o.2.2.2.2.1))) :
    OkN (putO os o) (upN ns w o.1 q p) := by
  intro id
  obtain ⟨s, h1, h2⟩ := h id
  unfold upN
  rw [scanN_append, h1, getO_putO o id hs]
  simp only [Option.bind_some, scanN]
  by_cases e : o.1 = id
  · subst e
    rw [if_pos rfl]
    obtain ⟨g1, g2⟩ := hnew s h1 h2
    rw [if_neg (show ¬ (noteR ns w o.1 q p).2.2.1 ≠ o.1 by unfold noteR; simp), if_neg (by unfold noteR at *; exact g1)]
    exact ⟨_, rfl, g2⟩
  · rw [if_neg e, if_pos (show (noteR ns w o.1 q p).2.2.1 ≠ id by unfold noteR; exact e)]
    exact ⟨_, rfl, h2⟩

theorem Did.okN {v w : VenR} (h : Did v w) (g : GoodV v) (hn : OkN v.2.1 v.2.2.1) : OkN w.2.1 w.2.2.1 := by
  have rt := g.rt
  have hs := rt.srt
  cases h with
  | nil ms h hl => exact hn
  | new m acc ms hm hms hl hk hg h4 hn' =>
    have hmp := rt.msg m hm
    have hq : 1 ≤ m.2.2.2.2.2.1 := by
      obtain ⟨_, _, _, _, _, _, _, _, h⟩ := hmp
      omega
    refine hn.put hs (o := newO m acc) fun s h1 h2 => ?_
    rw [show (newO m acc).1 = m.2.1 from rfl, hg] at h2
    dsimp only at h2
    subst h2
    unfold stepN noteR newO
    dsimp only
    cases acc <;> simp <;> omega
  | fin id o ms hms hl hg hp hn' =>
    refine hn.put hs (o := endO o) fun s h1 h2 => ?_
    rw [show (endO o).1 = o.1 from rfl, getO_name hg, hg] at h2
    dsimp only at h2
    obtain ⟨g1, g2, g3⟩ := h2
    have g4 : ¬ (s.2.2 = true ∨ s.1 = o.2.2.2.2.1) := fun hh => by have := g3.2 hh; omega
    simp only [not_or] at g4
    unfold stepN noteR endO
    dsimp only
    refine ⟨by simp [g4.1, g1], ?_⟩
    simp [g1, g2]
  | ver m o ms hm hms hl hg hp hv hn' =>
    refine hn.put hs (o := verO o m) fun s h1 h2 => ?_
    rw [show (verO o m).1 = o.1 from rfl, getO_name hg, hg] at h2
    dsimp only at h2
    obtain ⟨g1, g2, g3⟩ := h2
    have g4 : ¬ (s.2.2 = true ∨ s.1 = o.2.2.2.2.1) := fun hh => by have := g3.2 hh; omega
    simp only [not_or] at g4
    unfold stepN noteR verO
    dsimp only
    refine ⟨by simp [g4.1, g1], ?_⟩
    simp [g1, g2]
    rw [g2] at g3
    exact g3
  | ch m o ms hm hms hl hg hk hk3 hp hv hq hn' =>
    refine hn.put hs (o := chO o m) fun s h1 h2 => ?_
    rw [show (chO o m).1 = o.1 from rfl, getO_name hg, hg] at h2
    dsimp only at h2
    obtain ⟨g1, g2, g3⟩ := h2
    have g4 : ¬ (s.2.2 = true ∨ s.1 = o.2.2.2.2.1) := fun hh => by have := g3.2 hh; omega
    simp only [not_or] at g4
    unfold stepN noteR chO
    dsimp only
    refine ⟨by simp [g4.1, g1], ?_⟩
    simp [g1, g2, hp, g4.1]
    omega
  | fil id o q hg hp h1 hq hn' =>
    refine hn.put hs (o := fillO o q) fun s h1 h2 => ?_
    rw [show (fillO o q).1 = o.1 from rfl, getO_name hg, hg] at h2
    dsimp only at h2
    obtain ⟨g1, g2, g3⟩ := h2
    have g4 : ¬ (s.2.2 = true ∨ s.1 = o.2.2.2.2.1) := fun hh => by have := g3.2 hh; omega
    simp only [not_or] at g4
    unfold stepN noteR fillO
    dsimp only
    refine ⟨by simp [g4.1, g1], ?_⟩
    by_cases hz : o.2.2.2.2.2.2.1 + q = o.2.2.2.2.1
    · simp [g1, g2, hz]
    · simp [g1, g2, hz, hp, g4.1]

/-! ### Deeds -/
theorem r_wrap (n : Int) : R_i64 (IntKind.wrap .i64 n) := by
  unfold R_i64
  rw [IntKind.wrap_i64]
  omega
theorem deed_ok {v : VenR} (g : GoodV v) (d : DeedT) : ∃ w, g_law16_deed (v, (d, ())) = some w ∧ (Did v w ∨ ∃ m, R_MsgR m ∧ w = (sendV v m).1) := by
  unfold g_law16_deed
  dsimp only
  cases h0 : (Int.tmod d.1 4 == 0) with
  | true =>
    rw [cond_true, show d.2.2.2.2 = (d.2.2.2.2.1, ()) from rfl, venue_Take]
    exact ⟨_, rfl, .inl (did_take _ _)⟩
  | false =>
    rw [cond_false]
    cases h1 : (Int.tmod d.1 4 == 1) with
    | true =>
      rw [cond_true, venue_Fill v _ _ g.ro (r_wrap _)]
      exact ⟨_, rfl, .inl (did_fill _ _ _)⟩
    | false =>
      rw [cond_false]
      cases h2 : (Int.tmod d.1 4 == 2) with
      | true =>
        rw [cond_true, venue_Out]
        exact ⟨_, rfl, .inl (did_leave _ _)⟩
      | false =>
        rw [cond_false]
        have key : ∀ m4 : MsgR, R_MsgR m4 → ∃ w, ((bif (m4.1 == 3) then some ((m4.1, (m4.2.1, (m4.2.2.1, (m4.2.2.2.1, (m4.2.2.2.2.1, (0, (0, m4.2.2.2.2.2.2.2))))))) : MsgR)
            else some m4).bind (fun (v5 : MsgR) => ((g_venue_Send (v, (v5, ())))).bind (fun (v6 : (VenR × (Int × Unit))) => some v6.1))) = some w ∧ (Did v w ∨ ∃ m, R_MsgR m ∧ w = (sendV v m).1) := by
          intro m4 hm4
          cases (m4.1 == 3) with
          | true =>
            rw [cond_true, Option.bind_some, venue_Send]
            obtain ⟨q1, q2, q3, q4, q5, q6, q7⟩ := hm4
            exact ⟨_, rfl, .inr ⟨(m4.1, (m4.2.1, (m4.2.2.1, (m4.2.2.2.1, (m4.2.2.2.2.1, (0, (0, m4.2.2.2.2.2.2.2))))))), ⟨q1, q2, q3, q4, r_zero, r_zero, q7⟩, rfl⟩⟩
          | false =>
            rw [cond_false, Option.bind_some, venue_Send]
            exact ⟨_, rfl, .inr ⟨_, hm4, rfl⟩⟩
        cases h3 : (IntKind.wrap .i64 (1 + (Int.tmod (IntKind.wrap .i64 d.2.2.2.1) 3)) == 2) with
        | true =>
          rw [cond_true, Option.bind_some]
          obtain ⟨w, e1, e2⟩ := key ((IntKind.wrap .i64 (1 + (Int.tmod (IntKind.wrap .i64 d.2.2.2.1) 3))), ((IntKind.wrap .i64 ((IntKind.wrap .i64 (Int.tmod d.2.1 8)) + 1)), (0, (0, (2, ((IntKind.wrap .i64 ((IntKind.wrap .i64 d.2.2.1) + 1)), (3, ((IntKind.wrap .i64 ((IntKind.wrap .i64 (Int.tdiv (IntKind.wrap .i64 d.2.2.2.1) 3)) + 1)), (0, ())))))))))
            ⟨r_wrap _, r_zero, r_zero, r_two, r_wrap _, r_three, r_wrap _⟩
          rw [e1]
          exact ⟨w, rfl, e2⟩
        | false =>
          rw [cond_false, Option.bind_some]
          obtain ⟨w, e1, e2⟩ := key ((IntKind.wrap .i64 (1 + (Int.tmod (IntKind.wrap .i64 d.2.2.2.1) 3))), ((IntKind.wrap .i64 ((IntKind.wrap .i64 (Int.tmod d.2.1 8)) + 1)), (0, (0, (2, ((IntKind.wrap .i64 ((IntKind.wrap .i64 d.2.2.1) + 1)), (3, (0, (0, ())))))))))
            ⟨r_wrap _, r_zero, r_zero, r_two, r_wrap _, r_three, r_zero⟩
          rw [e1]
          exact ⟨w, rfl, e2⟩

theorem send_rest (v : VenR) (m : MsgR) : (sendV v m).1.2 = v.2 := by
  unfold sendV
  split
  · rfl
  · split <;> rfl
theorem okN_em : OkN emV.2.1 emV.2.2.1 := fun id => ⟨_, rfl, rfl⟩

theorem bif_false {α : Type} {c : Bool} (h : c = false) (a b : α) : (bif c then a else b) = b := by rw [h]; rfl

theorem pure_VenueFilled (a : List DeedT × Unit) (h : Rg (consS [(.slice 5 shDeed)]) a) : g_law16_VenueFilled a = some true := by
  obtain ⟨l, ⟨⟩⟩ := a
  unfold g_law16_VenueFilled
  rw [awake_ok]
  simp only [Option.bind_some, Bool.not_true, cond_false]
  by_cases hl : l.length ≤ 60
  rotate_left
  · rw [decide_eq_true (by omega), cond_true]
  rw [decide_eq_false (by omega), cond_false]
  generalize hstep : (fun v2 : Int × VenueT => bif (decide (v2.1 < (l.length : Int))) then _ else _) = step
  obtain ⟨v, q1, q2, q3⟩ := loop_meas (step := step) (fun x : Nat × VenR => (((x.1 : Int)), x.2)) (fun x => x.1 ≤ l.length ∧ GoodV x.2 ∧ OkN x.2.2.1 x.2.2.2.1) (fun o : VenR => GoodV o ∧ OkN o.2.1 o.2.2.1) (fun x => l.length - x.1) (by
    rintro ⟨i, v⟩ ⟨hi, g, hn⟩
    dsimp only at hi g hn ⊢
    rw [← hstep]
    dsimp only
    by_cases hlt : i < l.length
    · left
      obtain ⟨w, e1, e2⟩ := deed_ok g l[i]
      rw [ltI hlt, cond_true, getI_at hlt, Option.bind_some, e1, Option.bind_some, wrap_succ (by omega)]
      refine ⟨(i + 1, w), rfl, ⟨by dsimp only; omega, ?_⟩, by dsimp only; omega⟩
      rcases e2 with e2 | ⟨m, hm, rfl⟩
      · exact ⟨e2.good g, e2.okN g hn⟩
      · exact ⟨good_send g hm, by dsimp only; rw [send_rest]; exact hn⟩
    · right
      rw [decide_eq_false (by omega), cond_false]
      exact ⟨v, rfl, g, hn⟩) (x := (0, emV)) ⟨Nat.zero_le _, good_em, okN_em⟩
  rw [show (loopO step ((0 : Int), (([], ([], ([], ()))) : VenueT))) = some v from q1]
  clear q1 hstep step
  simp only [Option.bind_some]
  have rt := q2.rt
  have hnl := rt.nts
  have hol := rt.ods
  have hev : ∀ n ∈ v.2.2.1, evP n := by
    intro n hn
    obtain ⟨i, hi⟩ := List.mem_iff_getElem?.1 hn
    exact (rt.note i n hi).2
  generalize hstep : (fun v6 : Int × Unit => bif (decide (v6.1 ≤ 8)) then _ else _) = step
  obtain ⟨o, p1, p2⟩ := loop_meas (step := step) (fun k : Nat => ((((k + 1 : Nat) : Int)), ())) (fun k => k ≤ 8) (fun o => o = .inl ()) (fun k => 8 - k) (by
    intro k hk
    rw [← hstep]
    dsimp only
    by_cases hlt : k < 8
    rotate_left
    · right
      rw [decide_eq_false (by omega), cond_false]
      exact ⟨_, rfl, rfl⟩
    left
    refine ⟨k + 1, ?_, by omega, by omega⟩
    rw [decide_eq_true (by omega), cond_true, venue_Find v _ (by omega), Option.bind_some, wrap_succ (n := k + 1) (by omega)]
    generalize (((k + 1 : Nat) : Int)) = id
    generalize (((k + 1 + 1 : Nat) : Int)) = id2
    obtain ⟨s, e1, e2⟩ := q3 id
    have hs0 : s.1 < 9223372036854775808 ∧ s.2.1 ≤ 1 := by
      cases hg : getO v.2.1 id with
      | none => rw [hg] at e2; dsimp only at e2; subst e2; simp
      | some o =>
        rw [hg] at e2
        have hr := q2.ro o (getO_mem hg)
        obtain ⟨_, _, _, _, _, _, h7, _⟩ := hr
        unfold R_i64 at h7
        dsimp only at e2
        omega
    rw [loop_over0 v.2.2.1 (fun i (b : ScR) => (b.1, (b.2.1, (b.2.2, ((i : Int), ()))))) (fun _ _ => .inl (s.1, (s.2.1, (s.2.2, ())))) (fun i b => scanN id (v.2.2.1.drop i) b = some s ∧ 0 ≤ b.1 ∧ 0 ≤ b.2.1) (b := (0, (0, false))) ?_ ?_ ⟨by simpa using e1, by simp, by simp⟩ (by rfl)]
    rotate_left
    · intro b hb
      rw [List.drop_length] at hb
      obtain ⟨hb, _⟩ := hb
      simp only [scanN, Option.some.injEq] at hb
      subst hb
      simp only [ltI', cond_false]
      rfl
    · intro i b hi hb
      left
      rw [drop_at hi] at hb
      simp only [ltI hi, cond_true, getI_at hi, Option.bind_some]
      have hn := hev _ (List.getElem_mem hi)
      generalize v.2.2.1[i] = n at hb hn
      rw [wrap_succ (n := i) (by omega)]
      obtain ⟨f, bg, en⟩ := b
      obtain ⟨hb1, hb2, hb3⟩ := hb
      dsimp only at hb2 hb3 ⊢
      simp only [scanN] at hb1
      by_cases hid : n.2.2.1 = id
      rotate_left
      · rw [if_pos hid] at hb1
        refine ⟨(f, (bg, en)), ?_, ⟨hb1, hb2, hb3⟩, by trivial⟩
        rw [show (n.2.2.1 != id) = true by simp [hid], cond_true]
        rfl
      · rw [if_neg (by simp [hid])] at hb1
        rw [show (n.2.2.1 != id) = false by simp [hid], cond_false]
        split at hb1
        · cases hb1
        · rename_i hc
          have hc' : (en || ((bg == 0) && decide (n.2.1 > 2))) = false := by
            simp only [not_or, not_and] at hc
            cases en with
            | true => exact absurd rfl hc.1
            | false =>
              rw [Bool.false_or]
              by_cases h0 : bg = 0
              · have := hc.2 h0
                rw [decide_eq_false (by omega), Bool.and_false]
              · simp [h0]
          rw [hc', cond_false]
          have hm := scan_mono id _ _ _ (fun x hx => hev x (List.mem_of_mem_drop hx)) hb1
          obtain ⟨_, _, _, he⟩ := hn
          refine ⟨stepN (f, (bg, en)) n, ?_, ⟨hb1, ?_⟩, by trivial⟩
          · unfold stepN at hm ⊢
            by_cases w1 : n.2.1 = 1
            · rw [if_pos w1] at hm ⊢
              dsimp only at hm
              rw [wrap_i64_in (n := bg + 1) (by omega) (by omega)]
              simp [w1, eX]
            rw [if_neg w1] at hm ⊢
            have b1 : (n.2.1 == 1) = false := by simp [w1]
            rw [b1, cond_false, Option.bind_some]
            by_cases w2 : n.2.1 = 2
            · rw [if_pos w2] at hm ⊢
              dsimp only at hm
              rw [wrap_i64_in (n := bg + 1) (by omega) (by omega)]
              simp [w2, eX]
            rw [if_neg w2] at hm ⊢
            have b2 : (n.2.1 == 2) = false := by simp [w2]
            rw [b2, cond_false]
            by_cases w3 : n.2.1 = 3
            · rw [if_pos w3] at hm ⊢
              dsimp only at hm
              rw [wrap_i64_in (n := f + n.2.2.2.1) (by omega) (by omega)]
              simp [w3, eX]
            rw [if_neg w3]
            have b3 : (n.2.1 == 3) = false := by simp [w3]
            rw [b3, cond_false]
            by_cases w4 : n.2.1 = 4
            · rw [if_pos w4]
              simp [w4, eX]
            · rw [if_neg w4]
              have b4 : (n.2.1 == 4) = false := by simp [w4]
              rw [b4, cond_false]
              simp [eX]
          · unfold stepN
            repeat' split
            all_goals dsimp only
            all_goals omega
    rw [Option.bind_some]
    simp only [eX]
    rw [posO_getO rt.srt]
    cases hg : getO v.2.1 id with
    | none =>
      rw [hg] at e2
      dsimp only at e2
      subst e2
      dsimp only [Option.map_none, atI]
      clear hstep
      rw [bif_false]
      · simp
        rfl
      · simp
        omega
    | some x =>
      have hat := getO_at rt.srt hg
      have hlt2 := lt_of_get hat
      rw [hg] at e2
      dsimp only at e2
      dsimp only [Option.map_some, atI]
      obtain ⟨g1, g2, g3⟩ := e2
      have hx := rt.set x (getO_mem hg)
      obtain ⟨⟨_, k1, k2, _⟩, _⟩ := hx
      clear hstep
      simp only [show ((rankO v.2.1 id : Int) ≥ 0) = True from eq_true (by omega), decide_true, cond_true]
      rw [bif_false, getI_nat, hat, Option.bind_some, bif_false]
      · rfl
      · have e5 : (x.2.2.2.2.2.2.2.1 == 3) = (s.2.2 || (s.1 == x.2.2.2.2.1)) := by
          rw [Bool.eq_iff_iff]
          simpa using g3
        rw [e5, g2]
        simp
        omega
      · simp [g1]
        omega) (x := 0) (Nat.zero_le _)
  rw [show (loopO step ((1 : Int), ())) = some o from p1, p2]
  simp only [Option.bind_some, eX]
  rw [venue_Right]
  have := (rightV_iff v).2 rt
  rw [this]
  rfl
end Go.AI
