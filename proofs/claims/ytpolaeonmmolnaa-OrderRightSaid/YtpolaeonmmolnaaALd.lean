/- What may be forgotten of blocks; blocks that get other names. -/
import Derived.Test.YtpolaeonmmolnaaALc
namespace Go.AI
set_option linter.unusedVariables false
set_option linter.unusedSimpArgs false

mutual
/-- Does a value speak of these blocks alone? -/
def okV (keep : List Id) : AV → Bool
  | .box id _ => keep.contains id
  | .elt id _ _ => keep.contains id
  | .row id _ _ _ => keep.contains id
  | .agg l => okL keep l
  | .tup l => okL keep l
  | .clo _ l => okL keep l
  | .may _ x => okV keep x
  | _ => true
def okL (keep : List Id) : List AV → Bool
  | [] => true
  | x :: l => okV keep x && okL keep l
end

theorem okL_get {keep : List Id} : ∀ {l : List AV} {j : Nat} {x : AV}, okL keep l = true → l[j]? = some x → okV keep x = true
  | y :: l, 0, x, h, hx => by
    simp only [okL, Bool.and_eq_true] at h
    simp at hx
    subst hx
    exact h.1
  | y :: l, j + 1, x, h, hx => by
    simp only [okL, Bool.and_eq_true] at h
    exact okL_get h.2 (by simpa using hx)

theorem okV_rel {keep : List Id} {J J' : Id → JI} {F : Nat → Prop} {w : World} {x : AV} {v : Value} (h : VRel J F w x v) (hk : okV keep x = true) (hJ : ∀ id, keep.contains id = true → J' id = J id) : VRel J' F w x v := by
  induction h with
  | val d v h => exact .val d v h
  | box id o g own s cap h => exact .box id o g own s cap ((hJ id hk).trans h)
  | boxDead id o p h => exact .boxDead id o p ((hJ id hk).trans h)
  | elt id i o g own s cap h => exact .elt id i o g own s cap ((hJ id hk).trans h)
  | eltDead id i o p h => exact .eltDead id i o p ((hJ id hk).trans h)
  | row id o len g own s cap h hc => exact .row id o len g own s cap ((hJ id hk).trans h) hc
  | rowNil id own s cap a h => exact .rowNil id own s cap a ((hJ id hk).trans h)
  | rowEnd id o g own s cap h ho a c => exact .rowEnd id o g own s cap ((hJ id hk).trans h) ho a c
  | rowDead id s o len p c h hc hp => exact .rowDead id s o len p c ((hJ id hk).trans h) hc hp
  | agg l vs hl _ ih => exact .agg l vs hl (fun j d v h1 h2 => ih j d v h1 h2 (okL_get hk h1))
  | tup l vs hl _ ih => exact .tup l vs hl (fun j d v h1 h2 => ih j d v h1 h2 (okL_get hk h1))
  | clo f l vs hl _ ih => exact .clo f l vs hl (fun j d v h1 h2 => ih j d v h1 h2 (okL_get hk h1))
  | may c x v h h' ih => exact .may c x v (fun hc => ih hc hk) h'
  | junk v => exact .junk v

/-- Another word for what a block has. -/
inductive WkB : Blk → Blk → Prop
  | refl (b : Blk) : WkB b b
  | box (l m : List AV) (hl : m.length = l.length) (h : ∀ (j : Nat) x y, l[j]? = some x → m[j]? = some y → Wk x y) : WkB (.box l) (.box m)

def okB (keep : List Id) : Blk → Bool
  | .box cells => okL keep cells
  | _ => true

def HasB (h : Hp) : List (Id × Blk) → Prop
  | [] => True
  | (k, b) :: m => (∃ b', h k = some b' ∧ WkB b' b) ∧ HasB h m

theorem HasB.get {H : Hp} : ∀ {m : List (Id × Blk)} {id : Id} {b : Blk}, HasB H m → mkH m id = some b → ∃ b', H id = some b' ∧ WkB b' b
  | (k, c) :: m, id, b, h, hb => by
    rw [mkH_cons] at hb
    split at hb
    · rename_i e; subst e; cases hb; exact h.1
    · exact HasB.get h.2 hb

def okEnv (keep : List Id) : List (Nat × AV) → Bool
  | [] => true
  | (_, x) :: m => okV keep x && okEnv keep m
def okHp (keep : List Id) : List (Id × Blk) → Bool
  | [] => true
  | (k, b) :: m => keep.contains k && okB keep b && okHp keep m

theorem okEnv_get {keep : List Id} : ∀ {m : List (Nat × AV)} (t : Nat), okEnv keep m = true → okV keep (look m t) = true
  | [], t, _ => rfl
  | (u, x) :: m, t, h => by
    simp only [okEnv, Bool.and_eq_true] at h
    simp only [look]
    split
    · exact h.1
    · exact okEnv_get t h.2
theorem okHp_get {keep : List Id} : ∀ {m : List (Id × Blk)} {id : Id} {b : Blk}, okHp keep m = true → mkH m id = some b → keep.contains id = true ∧ okB keep b = true
  | (k, c) :: m, id, b, h, hb => by
    simp only [okHp, Bool.and_eq_true] at h
    rw [mkH_cons] at hb
    split at hb
    · rename_i e; subst e; cases hb; exact h.1
    · exact okHp_get h.2 hb

/-- **Blocks that nobody speaks of any more.** -/
theorem Sub_keep {n : Nat} {l m : List (Nat × AV)} {H : Hp} {h : List (Id × Blk)} (hE : HasW l m) (hB : HasB H h) (h1 : okEnv (h.map (·.1)) m = true) (h2 : okHp (h.map (·.1)) h = true) : Sub (fun _ => False) ⟨⟨n, l⟩, H⟩ ⟨⟨n, m⟩, mkH h⟩ := by
  intro J F w a hR hH
  obtain ⟨J1, F1, hR1, _, _⟩ := Sub_env (B := fun _ => False) (n := n) (H := H) hE J F w a hR hH
  have key : ∀ t, Wk (look l t) (look m t) := by
    intro t
    have : ∀ m, HasW l m → Wk (look l t) (look m t) := by
      intro m
      induction m with
      | nil => intro _; exact .junk _
      | cons p m ih =>
        obtain ⟨u, x⟩ := p
        intro hm
        simp only [look]
        split
        · rename_i e; subst e; exact hm.1
        · exact ih hm.2
    exact this m hE
  generalize hk : h.map (·.1) = keep at h1 h2
  let J' : Id → JI := fun id => if keep.contains id = true then J id else .none
  have hJ' : ∀ id, keep.contains id = true → J' id = J id := fun id h => by simp only [J']; rw [if_pos h]
  have hmem : ∀ id, keep.contains id = true → ∃ b, mkH h id = some b := by
    intro id hc
    rw [← hk] at hc
    clear hB h2 hk hJ'
    induction h with
    | nil => simp at hc
    | cons p h ih =>
      obtain ⟨k, b⟩ := p
      rw [mkH_cons]
      by_cases e : k = id
      · exact ⟨b, by rw [if_pos e]⟩
      · rw [if_neg e]
        exact ih (by simpa [Ne.symm e] using hc)
  have hlive : ∀ {id g o s c}, J' id = .live g o s c → keep.contains id = true ∧ J id = .live g o s c := by
    intro id g o s c hj
    simp only [J'] at hj
    split at hj
    · exact ⟨by assumption, hj⟩
    · cases hj
  refine ⟨J', F, ⟨hR.1, fun t v hv => ?_, fun t ht => ?_⟩, ⟨?_, ?_, ?_, ?_, ?_, hH.fsz⟩, ⟨fun _ h => h.elim, fun _ h => h, fun _ h => .inl h, ?_, fun _ _ _ => rfl, Nat.le_refl _, rfl, rfl, rfl⟩⟩
  · exact okV_rel ((key t).rel (hR.2.1 t v hv)) (okEnv_get t h1) hJ'
  · have := hR.2.2 t ht
    have h3 := key t
    simp only at this h3 ⊢
    rw [this] at h3
    generalize look m t = z at h3
    cases h3 <;> rfl
  · intro id b hb
    obtain ⟨hc, hob⟩ := okHp_get h2 hb
    obtain ⟨b', hb', hw⟩ := hB.get hb
    have hr := hH.blk id b' hb'
    have hid := hJ' id hc
    have hwk : BRel J F w id b := by
      cases hw with
      | refl => exact hr
      | box l m hl hx =>
        cases hr with
        | box _ g s cap cur e hj hg hs hcs h1 =>
          refine .box m g s cap cur e hj hg (by rw [hs, hl]) (fun j x v q1 q2 => ?_) h1
          have hjl : j < l.length := by rw [← hl]; exact (List.getElem?_eq_some_iff.1 q1).1
          exact (hx j _ x (List.getElem?_eq_getElem hjl) q1).rel (hcs j _ v (List.getElem?_eq_getElem hjl) q2)
    cases hwk with
    | box cells g s cap cur e hj hg hs hcs h1 => exact .box cells g s cap cur e (hid.trans hj) hg hs (fun j x v q1 q2 => okV_rel (hcs j x v q1 q2) (okL_get hob q1) hJ') h1
    | row s es g cap cur e hj hg hs hn hm he hc h1 => exact .row s es g cap cur e (hid.trans hj) hg hs hn hm he hc h1
    | rowNil s cap hj => exact .rowNil s cap (hid.trans hj)
    | fbox cells g own s cap vals hj ho hF hcell hrep => exact .fbox cells g own s cap vals (hid.trans hj) ho hF hcell hrep
    | frow s es g own cap vals hj ho hF he hsg hn hcell hrep => exact .frow s es g own cap vals (hid.trans hj) ho hF he hsg hn hcell hrep
    | frowNil s cap own hj => exact .frowNil s cap own (hid.trans hj)
    | dead hj => exact .dead (hid.trans hj)
  · intro id hid
    by_cases hc : keep.contains id = true
    · obtain ⟨b, hb⟩ := hmem id hc
      exact absurd (Eq.trans (Eq.symm hid) hb) (by simp)
    · simp only [J']; rw [if_neg hc]
  · intro id id' g o s c o' s' c' q1 q2
    exact hH.inj id id' g o s c o' s' c' (hlive q1).2 (hlive q2).2
  · rintro g ⟨id, s, c, q⟩
    exact hH.own g ⟨id, s, c, (hlive q).2⟩
  · intro id g o s c q
    exact hH.live id g o s c (hlive q).2
  · rintro g ⟨id, s, c, q⟩
    exact .inl ⟨id, s, c, (hlive q).2⟩
end Go.AI
