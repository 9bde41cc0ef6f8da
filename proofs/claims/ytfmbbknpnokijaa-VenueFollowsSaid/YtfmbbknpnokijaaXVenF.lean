/- venue: what is done keeps venues right; notes tell how far an order is. -/
import Derived.Test.YtfmbbknpnokijaaXVenE
namespace Go.AI
open IntKind

def R_MsgR (m : MsgR) : Prop := R_i64 m.2.1 ∧ R_i64 m.2.2.1 ∧ R_i64 m.2.2.2.1 ∧ R_i64 m.2.2.2.2.1 ∧ R_i64 m.2.2.2.2.2.1 ∧ R_i64 m.2.2.2.2.2.2.1 ∧ R_i64 m.2.2.2.2.2.2.2.1
/-- A right venue, of numbers that fit. -/
structure GoodV (v : VenR) : Prop where
  rt : RightV v
  ro : ∀ o ∈ v.2.1, R_OrdR o
  rm : ∀ m ∈ v.1, R_MsgR m
theorem r_zero : R_i64 0 := by unfold R_i64; omega
theorem r_two : R_i64 2 := by unfold R_i64; omega
theorem r_three : R_i64 3 := by unfold R_i64; omega

/-! ### Orders as they are put -/
theorem set_new {m : MsgR} (acc : Bool) (hm : msgP m) (hk : m.1 = 1) : setP (newO m acc) := by
  obtain ⟨h1, h2, h3, h4, h5, h6, _, _, h⟩ := hm
  have h : 1 ≤ m.2.2.2.2.2.1 ∧ 1 ≤ m.2.2.2.2.2.2.1 := by omega
  unfold idP at h1
  unfold setP ordP newP pend newO idP
  dsimp only
  cases acc <;> simp <;> omega
theorem R_new {m : MsgR} (acc : Bool) (hm : R_MsgR m) : R_OrdR (newO m acc) := by
  obtain ⟨h1, h2, h3, h4, h5, h6, h7⟩ := hm
  refine ⟨h1, h2, h3, h4, h5, h6, r_zero, ?_, r_zero, r_zero, r_zero⟩
  cases acc
  · exact r_three
  · exact r_two
theorem set_end {o : OrdR} (h : setP o) : setP (endO o) := by
  unfold setP ordP newP pend endO at *
  dsimp only at *
  obtain ⟨⟨h1, h2, h3, h4, h5, h6⟩, h7, h8, h9⟩ := h
  refine ⟨⟨h1, h2, h3, h4, h5, .inr (.inr ⟨rfl, ?_⟩)⟩, by omega, h8, h9⟩
  intro hp
  have := h5 hp
  omega
theorem R_end {o : OrdR} (h : R_OrdR o) : R_OrdR (endO o) := by
  obtain ⟨h1, h2, h3, h4, h5, h6, h7, h8, h9, h10, h11⟩ := h
  exact ⟨h1, h2, h3, h4, h5, h6, h7, r_three, h9, h10, h11⟩
theorem set_ver {o : OrdR} {m : MsgR} (h : setP o) (hp : o.2.2.2.2.2.2.2.1 = 2) (hv : ¬ m.2.2.2.2.2.2.2.1 ≤ o.2.2.2.2.2.2.2.2.2.2.1) : setP (verO o m) := by
  unfold setP ordP newP pend verO at *
  dsimp only at *
  obtain ⟨⟨h1, h2, h3, h4, h5, h6⟩, h7, h8, h9⟩ := h
  exact ⟨⟨h1, h2, h3, by omega, h5, .inr (.inl ⟨hp, by omega⟩)⟩, h7, h8, h9⟩
theorem R_ver {o : OrdR} {m : MsgR} (h : R_OrdR o) (hm : R_MsgR m) : R_OrdR (verO o m) := by
  obtain ⟨h1, h2, h3, h4, h5, h6, h7, h8, h9, h10, h11⟩ := h
  obtain ⟨_, _, _, _, _, _, g7⟩ := hm
  exact ⟨h1, h2, h3, h4, h5, h6, h7, h8, h9, h10, g7⟩
theorem set_ch {o : OrdR} {m : MsgR} (h : setP o) (hm : msgP m) (hk : ¬ m.1 = 1) (hk3 : ¬ m.1 = 3) (hp : o.2.2.2.2.2.2.2.1 = 2) (hv : ¬ m.2.2.2.2.2.2.2.1 ≤ o.2.2.2.2.2.2.2.2.2.2.1) (hq : m.2.2.2.2.2.1 > o.2.2.2.2.2.2.1) : setP (chO o m) := by
  obtain ⟨_, _, _, _, _, _, _, _, hmm⟩ := hm
  unfold setP ordP newP pend chO at *
  dsimp only at *
  obtain ⟨⟨h1, h2, h3, h4, h5, h6⟩, h7, h8, h9⟩ := h
  obtain ⟨g1, g2, g3, g4, g5, g6, g7, g8⟩ := h1
  exact ⟨⟨⟨g1, g2, g3, g4, g5, g6, by omega, by omega⟩, h2, by omega, by omega, h5, .inr (.inl ⟨hp, by omega⟩)⟩, h7, h8, h9⟩
theorem R_ch {o : OrdR} {m : MsgR} (h : R_OrdR o) (hm : R_MsgR m) : R_OrdR (chO o m) := by
  obtain ⟨h1, h2, h3, h4, h5, h6, h7, h8, h9, h10, h11⟩ := h
  obtain ⟨_, _, _, _, g5, g6, g7⟩ := hm
  exact ⟨h1, h2, h3, h4, g5, g6, h7, h8, h9, h10, g7⟩
theorem set_fill {o : OrdR} {q : Int} (h : setP o) (hp : o.2.2.2.2.2.2.2.1 = 2) (h1 : 1 ≤ q) (hq : ¬ q > o.2.2.2.2.1 - o.2.2.2.2.2.2.1) : setP (fillO o q) := by
  unfold setP ordP newP pend fillO at *
  dsimp only at *
  obtain ⟨⟨h1, h2, h3, h4, h5, h6⟩, h7, h8, h9⟩ := h
  by_cases hz : o.2.2.2.2.2.2.1 + q = o.2.2.2.2.1
  · rw [if_pos hz]
    refine ⟨⟨h1, by omega, by omega, h4, h5, .inr (.inr ⟨rfl, ?_⟩)⟩, by omega, h8, h9⟩
    intro hp
    have := h5 hp
    omega
  · rw [if_neg hz]
    exact ⟨⟨h1, by omega, by omega, h4, h5, .inr (.inl ⟨hp, by omega⟩)⟩, by omega, h8, h9⟩
theorem R_fill {o : OrdR} {q : Int} (h : R_OrdR o) (ho : setP o) (h1 : 1 ≤ q) (hq : ¬ q > o.2.2.2.2.1 - o.2.2.2.2.2.2.1) : R_OrdR (fillO o q) := by
  obtain ⟨h1', h2, h3, h4, h5, h6, h7, h8, h9, h10, h11⟩ := h
  obtain ⟨⟨_, g2, g3, _⟩, _⟩ := ho
  refine ⟨h1', h2, h3, h4, h5, h6, ?_, ?_, h9, h10, h11⟩
  · unfold fillO R_i64 at *
    dsimp only
    omega
  · unfold fillO
    dsimp only
    split
    · exact r_three
    · exact h8

/-! ### Venues as they come -/
theorem note_up {ns : List NotR} {w id q p : Int} (h : ∀ (i : Nat) (n : NotR), ns[i]? = some n → n.1 = (i : Int) + 1 ∧ evP n) (hl : ns.length ≤ 400) (he : evP (noteR ns w id q p)) :
    ∀ (i : Nat) (n : NotR), (upN ns w id q p)[i]? = some n → n.1 = (i : Int) + 1 ∧ evP n := by
  intro i n hn
  unfold upN at hn
  by_cases hi : i < ns.length
  · rw [List.getElem?_append_left hi] at hn
    exact h i n hn
  · rw [List.getElem?_append_right (by omega)] at hn
    have hi0 : i - ns.length = 0 := by
      have := lt_of_get hn
      simp at this
      omega
    rw [hi0] at hn
    simp only [List.getElem?_cons_zero, Option.some.injEq] at hn
    subst hn
    exact ⟨by unfold noteR; dsimp only; omega, he⟩
/-- An order is put, and a note told. -/
theorem GoodV.put {ms ms' : List MsgR} {os : List OrdR} {ns : List NotR} (h : GoodV (ms, (os, (ns, ())))) (hms : ∀ m ∈ ms', m ∈ ms) (hml : ms'.length ≤ ms.length) {o : OrdR} {w q p : Int} (ho : setP o) (hr : R_OrdR o)
    (hn : ns.length < 400) (hlen : (getO os o.1).isSome = true ∨ os.length < 400)
    (hw : (w = 3 ∧ 1 ≤ q ∧ p = 0) ∨ (w = 5 ∧ 1 ≤ q ∧ 1 ≤ p) ∨ ((w = 1 ∨ w = 2 ∨ w = 4 ∨ w = 6) ∧ q = 0 ∧ p = 0)) : GoodV (ms', (putO os o, (upN ns w o.1 q p, ()))) := by
  obtain ⟨⟨h1, h2, h3, h4, h5, h6, h7⟩, ro, rm⟩ := h
  dsimp only at h1 h2 h3 h4 h5 h6 h7 ro rm
  have hev : evP (noteR ns w o.1 q p) := by
    unfold evP noteR
    exact ⟨by dsimp only; omega, by dsimp only; omega, ho.1.1.1, hw⟩
  have hl : (putO os o).length ≤ 400 := by
    cases hg : getO os o.1 with
    | some g => rw [putO_length_old h6 hg]; exact h3
    | none =>
      rw [hg] at hlen
      have := putO_length_new hg
      rcases hlen with h | h
      · cases h
      · omega
  refine ⟨⟨by dsimp only; omega, by dsimp only; rw [upN_len]; omega, hl, note_up h4 h2 hev, fun x hx => ?_, putO_srt h6 o, fun m hm => h7 m (hms m hm)⟩, fun x hx => ?_, fun m hm => rm m (hms m hm)⟩
  · rcases putO_mem hx with rfl | hx
    · exact ho
    · exact h5 x hx
  · rcases putO_mem hx with rfl | hx
    · exact hr
    · exact ro x hx
theorem GoodV.less {ms ms' : List MsgR} {r : DeskR} (h : GoodV (ms, r)) (hms : ∀ m ∈ ms', m ∈ ms) (hml : ms'.length ≤ ms.length) : GoodV (ms', r) := by
  obtain ⟨⟨h1, h2, h3, h4, h5, h6, h7⟩, ro, rm⟩ := h
  exact ⟨⟨by dsimp only at *; omega, h2, h3, h4, h5, h6, fun m hm => h7 m (hms m hm)⟩, ro, fun m hm => rm m (hms m hm)⟩
theorem good_send {v : VenR} (h : GoodV v) {m : MsgR} (hm : R_MsgR m) : GoodV (sendV v m).1 := by
  unfold sendV
  split
  · exact h
  · rename_i hok
    split
    · exact h
    · rename_i hl
      have hmp : msgP m := by
        apply Classical.byContradiction
        intro hc
        exact hok fun hh => hc hh.2
      obtain ⟨⟨h1, h2, h3, h4, h5, h6, h7⟩, ro, rm⟩ := h
      refine ⟨⟨by simp only [List.length_append, List.length_cons, List.length_nil]; omega, h2, h3, h4, h5, h6, fun x hx => ?_⟩, ro, fun x hx => ?_⟩
      · rcases List.mem_append.1 hx with hx | hx
        · exact h7 x hx
        · simp at hx; subst hx; exact hmp
      · rcases List.mem_append.1 hx with hx | hx
        · exact rm x hx
        · simp at hx; subst hx; exact hm

/-- What one thing that is done does to orders and notes. -/
inductive Did (v : VenR) : VenR → Prop where
  | nil (ms) (h : ∀ m ∈ ms, m ∈ v.1) (hl : ms.length ≤ v.1.length) : Did v (ms, v.2)
  | new (m acc ms) (hm : m ∈ v.1) (hms : ∀ m ∈ ms, m ∈ v.1) (hl : ms.length ≤ v.1.length) (hk : m.1 = 1) (hg : getO v.2.1 m.2.1 = none) (h4 : v.2.1.length ≠ 400) (hn : v.2.2.1.length ≠ 400) : Did v (ms, (putO v.2.1 (newO m acc), (upN v.2.2.1 (bif acc then 1 else 2) m.2.1 0 0, ())))
  | fin (id o ms) (hms : ∀ m ∈ ms, m ∈ v.1) (hl : ms.length ≤ v.1.length) (hg : getO v.2.1 id = some o) (hp : o.2.2.2.2.2.2.2.1 = 2) (hn : v.2.2.1.length ≠ 400) : Did v (ms, (putO v.2.1 (endO o), (upN v.2.2.1 4 o.1 0 0, ())))
  | ver (m o ms) (hm : m ∈ v.1) (hms : ∀ m ∈ ms, m ∈ v.1) (hl : ms.length ≤ v.1.length) (hg : getO v.2.1 m.2.1 = some o) (hp : o.2.2.2.2.2.2.2.1 = 2) (hv : ¬ m.2.2.2.2.2.2.2.1 ≤ o.2.2.2.2.2.2.2.2.2.2.1) (hn : v.2.2.1.length ≠ 400) : Did v (ms, (putO v.2.1 (verO o m), (upN v.2.2.1 6 o.1 0 0, ())))
  | ch (m o ms) (hm : m ∈ v.1) (hms : ∀ m ∈ ms, m ∈ v.1) (hl : ms.length ≤ v.1.length) (hg : getO v.2.1 m.2.1 = some o) (hk : ¬ m.1 = 1) (hk3 : ¬ m.1 = 3) (hp : o.2.2.2.2.2.2.2.1 = 2) (hv : ¬ m.2.2.2.2.2.2.2.1 ≤ o.2.2.2.2.2.2.2.2.2.2.1) (hq : m.2.2.2.2.2.1 > o.2.2.2.2.2.2.1) (hn : v.2.2.1.length ≠ 400) : Did v (ms, (putO v.2.1 (chO o m), (upN v.2.2.1 5 o.1 m.2.2.2.2.2.1 m.2.2.2.2.2.2.1, ())))
  | fil (id o q) (hg : getO v.2.1 id = some o) (hp : o.2.2.2.2.2.2.2.1 = 2) (h1 : 1 ≤ q) (hq : ¬ q > o.2.2.2.2.1 - o.2.2.2.2.2.2.1) (hn : v.2.2.1.length ≠ 400) : Did v (v.1, (putO v.2.1 (fillO o q), (upN v.2.2.1 3 o.1 q 0, ())))

theorem did_none (v : VenR) : Did v v := .nil v.1 (fun _ h => h) (Nat.le_refl _)
theorem did_take (v : VenR) (acc : Bool) : Did v (takeV v acc).1 := by
  obtain ⟨ms, os, ns, ⟨⟩⟩ := v
  unfold takeV
  split
  · exact did_none _
  · dsimp only
    cases ms with
    | nil => exact did_none _
    | cons m ms =>
      dsimp only
      split
      · exact did_none _
      · rename_i hc
        simp only [not_or, not_and] at hc
        have hms : ∀ x ∈ ms, x ∈ m :: ms := fun x hx => List.mem_cons_of_mem _ hx
        have hml : ms.length ≤ (m :: ms).length := by simp
        dsimp only
        unfold bodyV
        cases hg : getO os m.2.1 with
        | none =>
          dsimp only
          split
          · rename_i hk
            exact .new (v := (m :: ms, (os, (ns, ())))) m acc ms List.mem_cons_self hms hml hk hg (hc.2 hk hg) hc.1
          · exact .nil (v := (m :: ms, (os, (ns, ())))) ms hms hml
        | some o =>
          dsimp only
          split
          · exact .nil (v := (m :: ms, (os, (ns, ())))) ms hms hml
          · rename_i hk
            simp only [not_or, ne_eq, Classical.not_not] at hk
            unfold liveV
            split
            · split
              · exact .fin (v := (m :: ms, (os, (ns, ())))) m.2.1 o ms hms hml hg hk.2 hc.1
              · exact .nil (v := (m :: ms, (os, (ns, ())))) ms hms hml
            · rename_i hk3
              split
              · exact .nil (v := (m :: ms, (os, (ns, ())))) ms hms hml
              · rename_i hv
                split
                · rename_i hq
                  exact .ch (v := (m :: ms, (os, (ns, ())))) m o ms List.mem_cons_self hms hml hg hk.1 hk3 hk.2 hv hq.2 hc.1
                · exact .ver (v := (m :: ms, (os, (ns, ())))) m o ms List.mem_cons_self hms hml hg hk.2 hv hc.1
theorem did_fill (v : VenR) (id q : Int) : Did v (fillV v id q).1 := by
  unfold fillV
  split
  · exact did_none _
  · rename_i hok
    have hq : 1 ≤ q := by
      apply Classical.byContradiction
      intro hc
      exact hok fun hh => hc hh.2
    cases hg : getO v.2.1 id with
    | none => exact did_none _
    | some o =>
      dsimp only
      split
      · exact did_none _
      · rename_i hp
        simp only [not_or, ne_eq, Classical.not_not] at hp
        split
        · exact did_none _
        · rename_i hn
          exact .fil id o q hg hp.1 hq hp.2 hn
theorem did_leave (v : VenR) (id : Int) : Did v (leaveV v id).1 := by
  unfold leaveV
  split
  · exact did_none _
  · cases hg : getO v.2.1 id with
    | none => exact did_none _
    | some o =>
      dsimp only
      split
      · exact did_none _
      · rename_i hp
        simp only [ne_eq, Classical.not_not] at hp
        split
        · exact did_none _
        · rename_i hn
          exact .fin id o v.1 (fun _ h => h) (Nat.le_refl _) hg hp hn
theorem Did.good {v w : VenR} (h : Did v w) (g : GoodV v) : GoodV w := by
  obtain ⟨ms0, os, ns, ⟨⟩⟩ := v
  have rt := g.rt
  cases h with
  | nil ms h hl => exact g.less h hl
  | new m acc ms hm hms hl hk hg h4 hn =>
    have := rt.ods
    have := rt.nts
    dsimp only at *
    exact g.put hms hl (set_new acc (rt.msg m hm) hk) (R_new acc (g.rm m hm)) (by omega) (.inr (by omega)) (.inr (.inr ⟨by cases acc <;> simp, rfl, rfl⟩))
  | fin id o ms hms hl hg hp hn =>
    have := rt.nts
    dsimp only at *
    have hmem := getO_mem hg
    exact g.put hms hl (set_end (rt.set o hmem)) (R_end (g.ro o hmem)) (by omega) (.inl (by rw [show (endO o).1 = o.1 from rfl, getO_name hg, hg]; rfl)) (.inr (.inr ⟨by omega, rfl, rfl⟩))
  | ver m o ms hm hms hl hg hp hv hn =>
    have := rt.nts
    dsimp only at *
    have hmem := getO_mem hg
    exact g.put hms hl (set_ver (rt.set o hmem) hp hv) (R_ver (g.ro o hmem) (g.rm m hm)) (by omega) (.inl (by rw [show (verO o m).1 = o.1 from rfl, getO_name hg, hg]; rfl)) (.inr (.inr ⟨by omega, rfl, rfl⟩))
  | ch m o ms hm hms hl hg hk hk3 hp hv hq hn =>
    have := rt.nts
    dsimp only at *
    have hmem := getO_mem hg
    have hmp := rt.msg m hm
    have h12 : 1 ≤ m.2.2.2.2.2.1 ∧ 1 ≤ m.2.2.2.2.2.2.1 := by
      obtain ⟨_, _, _, _, _, _, _, _, h⟩ := hmp
      omega
    exact g.put hms hl (set_ch (rt.set o hmem) hmp hk hk3 hp hv hq) (R_ch (g.ro o hmem) (g.rm m hm)) (by omega) (.inl (by rw [show (chO o m).1 = o.1 from rfl, getO_name hg, hg]; rfl)) (.inr (.inl ⟨rfl, h12.1, h12.2⟩))
  | fil id o q hg hp h1 hq hn =>
    have := rt.nts
    dsimp only at *
    have hmem := getO_mem hg
    exact g.put (fun _ h => h) (Nat.le_refl _) (set_fill (rt.set o hmem) hp h1 hq) (R_fill (g.ro o hmem) (rt.set o hmem) h1 hq) (by omega) (.inl (by rw [show (fillO o q).1 = o.1 from rfl, getO_name hg, hg]; rfl)) (.inl ⟨rfl, h1, rfl⟩)
theorem good_em : GoodV emV := ⟨⟨by decide, by decide, by decide, fun i n h => by simp [emV] at h, fun o h => by simp [emV] at h, List.Pairwise.nil, fun m h => by simp [emV] at h⟩, fun o h => by simp [emV] at h, fun m h => by simp [emV] at h⟩
end Go.AI
