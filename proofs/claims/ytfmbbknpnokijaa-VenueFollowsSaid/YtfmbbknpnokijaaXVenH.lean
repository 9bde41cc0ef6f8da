/- venue: who follows the notes of an order knows it as the venue does. -/
import Derived.Test.YtfmbbknpnokijaaXVenG
namespace Go.AI
open IntKind

/-! ### Notes that are taken -/
def ackO (o : OrdR) : OrdR := (o.1, (o.2.1, (o.2.2.1, (o.2.2.2.1, (o.2.2.2.2.1, (o.2.2.2.2.2.1, (o.2.2.2.2.2.2.1, (2, o.2.2.2.2.2.2.2.2))))))))
def filO (o : OrdR) (n : NotR) : OrdR := (o.1, (o.2.1, (o.2.2.1, (o.2.2.2.1, (o.2.2.2.2.1, (o.2.2.2.2.2.1, (o.2.2.2.2.2.2.1 + n.2.2.2.1, o.2.2.2.2.2.2.2)))))))
def allO (o : OrdR) (n : NotR) : OrdR := (o.1, (o.2.1, (o.2.2.1, (o.2.2.2.1, (o.2.2.2.2.1, (o.2.2.2.2.2.1, (o.2.2.2.2.2.2.1 + n.2.2.2.1, (3, (0, (0, (o.2.2.2.2.2.2.2.2.2.2.1, (o.2.2.2.2.2.2.2.2.2.2.2.1, ()))))))))))))
def repO (o : OrdR) (n : NotR) : OrdR := (o.1, (o.2.1, (o.2.2.1, (o.2.2.2.1, (n.2.2.2.1, (n.2.2.2.2.1, (o.2.2.2.2.2.2.1, (o.2.2.2.2.2.2.2.1, (0, (0, (o.2.2.2.2.2.2.2.2.2.2.1, (o.2.2.2.2.2.2.2.2.2.2.2.1, ()))))))))))))
def refO (o : OrdR) : OrdR := (o.1, (o.2.1, (o.2.2.1, (o.2.2.2.1, (o.2.2.2.2.1, (o.2.2.2.2.2.1, (o.2.2.2.2.2.2.1, (o.2.2.2.2.2.2.2.1, (0, (0, (o.2.2.2.2.2.2.2.2.2.2.1, (o.2.2.2.2.2.2.2.2.2.2.2.1, ()))))))))))))
inductive Tk (o : OrdR) (n : NotR) : OrdR → Prop where
  | ack (h1 : o.2.2.2.2.2.2.2.1 = 1) (h2 : n.2.1 = 1) : Tk o n (ackO o)
  | rej (h1 : o.2.2.2.2.2.2.2.1 = 1) (h2 : n.2.1 = 2) : Tk o n (doneF o)
  | fil (h1 : o.2.2.2.2.2.2.2.1 = 2) (h2 : n.2.1 = 3) (h3 : o.2.2.2.2.2.2.1 + n.2.2.2.1 < o.2.2.2.2.1) : Tk o n (filO o n)
  | all (h1 : o.2.2.2.2.2.2.2.1 = 2) (h2 : n.2.1 = 3) (h3 : o.2.2.2.2.2.2.1 + n.2.2.2.1 = o.2.2.2.2.1) : Tk o n (allO o n)
  | out (h1 : o.2.2.2.2.2.2.2.1 = 2) (h2 : n.2.1 = 4) : Tk o n (doneF o)
  | rep (h1 : o.2.2.2.2.2.2.2.1 = 2) (h2 : n.2.1 = 5) (h3 : pend o) (h4 : n.2.2.2.1 = o.2.2.2.2.2.2.2.2.1) (h5 : n.2.2.2.2.1 = o.2.2.2.2.2.2.2.2.2.1) (h6 : n.2.2.2.1 > o.2.2.2.2.2.2.1) : Tk o n (repO o n)
  | ref (h1 : o.2.2.2.2.2.2.2.1 = 2) (h2 : n.2.1 = 6) (h3 : pend o) : Tk o n (refO o)
theorem takeF_of {o o' : OrdR} {n : NotR} (h1 : ordP o) (h2 : evP n) (h3 : n.2.2.1 = o.1) (h : Tk o n o') : takeF o n = (o', (0, ())) := by
  unfold takeF
  rw [if_neg (by simp [h1, h2, h3])]
  cases h with
  | ack g1 g2 => rw [if_pos g1, if_pos g2]; rfl
  | rej g1 g2 => rw [if_pos g1, if_neg (by omega), if_pos g2]
  | fil g1 g2 g3 => rw [if_neg (by omega), if_pos g1, if_pos g2, if_neg (by omega), if_pos g3]; rfl
  | all g1 g2 g3 => rw [if_neg (by omega), if_pos g1, if_pos g2, if_neg (by omega), if_neg (by omega)]; rfl
  | out g1 g2 => rw [if_neg (by omega), if_pos g1, if_neg (by omega), if_pos g2]
  | rep g1 g2 g3 g4 g5 g6 => rw [if_neg (by omega), if_pos g1, if_neg (by omega), if_neg (by omega), if_pos g2, if_pos ⟨g3, g4, g5, g6⟩]; rfl
  | ref g1 g2 g3 => rw [if_neg (by omega), if_pos g1, if_neg (by omega), if_neg (by omega), if_neg (by omega), if_pos g2, if_pos g3]; rfl
theorem takeF_inv {o o' : OrdR} {n : NotR} (h : takeF o n = (o', (0, ()))) : ordP o ∧ evP n ∧ n.2.2.1 = o.1 ∧ Tk o n o' := by
  unfold takeF at h
  split at h
  · simp at h
  · rename_i hh
    simp only [Classical.not_not] at hh
    obtain ⟨h1, h2, h3⟩ := hh
    refine ⟨h1, h2, h3, ?_⟩
    split at h
    · rename_i g1
      split at h
      · rename_i g2
        have := (Prod.mk.inj h).1
        subst this
        exact .ack g1 g2
      · split at h
        · rename_i g2
          have := (Prod.mk.inj h).1
          subst this
          exact .rej g1 g2
        · simp at h
    · split at h
      · rename_i g1
        split at h
        · rename_i g2
          split at h
          · simp at h
          · rename_i g3
            split at h
            · rename_i g4
              have := (Prod.mk.inj h).1
              subst this
              exact .fil g1 g2 g4
            · rename_i g4
              have := (Prod.mk.inj h).1
              subst this
              exact .all g1 g2 (by omega)
        · split at h
          · rename_i g2
            have := (Prod.mk.inj h).1
            subst this
            exact .out g1 g2
          · split at h
            · rename_i g2
              split at h
              · rename_i g3
                have := (Prod.mk.inj h).1
                subst this
                exact .rep g1 g2 g3.1 g3.2.1 g3.2.2.1 g3.2.2.2
              · simp at h
            · split at h
              · rename_i g2
                split at h
                · rename_i g3
                  have := (Prod.mk.inj h).1
                  subst this
                  exact .ref g1 g2 g3
                · simp at h
              · simp at h
      · simp at h
/-- What a note leaves as it is. -/
structure Kept (o o' : OrdR) : Prop where
  op : ordP o'
  oR : R_OrdR o'
  id : o'.1 = o.1
  ver : o'.2.2.2.2.2.2.2.2.2.2.1 = o.2.2.2.2.2.2.2.2.2.2.1
  ask : o'.2.2.2.2.2.2.2.2.2.2.2.1 = o.2.2.2.2.2.2.2.2.2.2.2.1
theorem Tk.ord {o o' : OrdR} {n : NotR} (h : Tk o n o') (ho : ordP o) (he : evP n) : ordP o' := by
  obtain ⟨h1, h2, h3, h4, h5, h6⟩ := ho
  obtain ⟨_, _, _, he⟩ := he
  cases h with
  | ack g1 g2 => exact ⟨h1, h2, h3, h4, h5, .inr (.inl ⟨rfl, by obtain ⟨_, _, _, _, _, _, q, _⟩ := h1; unfold ackO; dsimp only; omega⟩)⟩
  | rej g1 g2 => exact ⟨h1, h2, h3, h4, fun hp => by unfold pend doneF at hp; simp at hp, .inr (.inr ⟨rfl, fun hp => by unfold pend doneF at hp; simp at hp⟩)⟩
  | fil g1 g2 g3 => exact ⟨h1, by unfold filO; dsimp only; omega, by unfold filO; dsimp only; omega, h4, h5, .inr (.inl ⟨g1, g3⟩)⟩
  | all g1 g2 g3 => exact ⟨h1, by unfold allO; dsimp only; omega, by unfold allO; dsimp only; omega, h4, fun hp => by unfold pend allO at hp; simp at hp, .inr (.inr ⟨rfl, fun hp => by unfold pend allO at hp; simp at hp⟩)⟩
  | out g1 g2 => exact ⟨h1, h2, h3, h4, fun hp => by unfold pend doneF at hp; simp at hp, .inr (.inr ⟨rfl, fun hp => by unfold pend doneF at hp; simp at hp⟩)⟩
  | rep g1 g2 g3 g4 g5 g6 =>
    obtain ⟨q1, q2, q3, q4, q5, q6, q7, q8⟩ := h1
    exact ⟨⟨q1, q2, q3, q4, q5, q6, by unfold repO; dsimp only; omega, by unfold repO; dsimp only; omega⟩, h2, by unfold repO; dsimp only; omega, h4, fun hp => by unfold pend repO at hp; simp at hp, .inr (.inl ⟨g1, g6⟩)⟩
  | ref g1 g2 g3 => exact ⟨h1, h2, h3, h4, fun hp => by unfold pend refO at hp; simp at hp, .inr (.inl ⟨g1, by unfold refO; dsimp only; omega⟩)⟩
theorem Tk.kept {o o' : OrdR} {n : NotR} (h : Tk o n o') (ho : ordP o) (hr : R_OrdR o) (he : evP n) (hn : R_NotR n) : Kept o o' := by
  have hop := h.ord ho he
  obtain ⟨h1, h2, h3, h4, h5, h6, h7, h8, h9, h10, h11⟩ := hr
  obtain ⟨n1, n2, n3, n4, n5⟩ := hn
  obtain ⟨_, k2, k3, _⟩ := ho
  obtain ⟨_, _, _, he⟩ := he
  cases h with
  | ack g1 g2 => exact ⟨hop, ⟨h1, h2, h3, h4, h5, h6, h7, r_two, h9, h10, h11⟩, rfl, rfl, rfl⟩
  | rej g1 g2 => exact ⟨hop, ⟨h1, h2, h3, h4, h5, h6, h7, r_three, r_zero, r_zero, h11⟩, rfl, rfl, rfl⟩
  | fil g1 g2 g3 => exact ⟨hop, ⟨h1, h2, h3, h4, h5, h6, by unfold R_i64 filO at *; dsimp only; omega, h8, h9, h10, h11⟩, rfl, rfl, rfl⟩
  | all g1 g2 g3 => exact ⟨hop, ⟨h1, h2, h3, h4, h5, h6, by unfold R_i64 allO at *; dsimp only; omega, r_three, r_zero, r_zero, h11⟩, rfl, rfl, rfl⟩
  | out g1 g2 => exact ⟨hop, ⟨h1, h2, h3, h4, h5, h6, h7, r_three, r_zero, r_zero, h11⟩, rfl, rfl, rfl⟩
  | rep g1 g2 g3 g4 g5 g6 => exact ⟨hop, ⟨h1, h2, h3, h4, n4, n5, h7, h8, r_zero, r_zero, h11⟩, rfl, rfl, rfl⟩
  | ref g1 g2 g3 => exact ⟨hop, ⟨h1, h2, h3, h4, h5, h6, h7, h8, r_zero, r_zero, h11⟩, rfl, rfl, rfl⟩

/-- A row of notes that are taken. -/
inductive Rn : OrdR → List NotR → OrdR → Prop where
  | nil (o) : Rn o [] o
  | cons {o o' w : OrdR} {n : NotR} {l : List NotR} (h : takeF o n = (o', (0, ()))) (t : Rn o' l w) : Rn o (n :: l) w
theorem Rn.snoc {o w w' : OrdR} {l : List NotR} (h : Rn o l w) {n : NotR} (hn : takeF w n = (w', (0, ()))) : Rn o (l ++ [n]) w' := by
  induction h with
  | nil o => exact .cons hn (.nil _)
  | cons h _ ih => exact .cons h (ih hn)
theorem Rn.ord {o w : OrdR} {l : List NotR} (h : Rn o l w) (ho : ordP o) : ordP w ∧ w.1 = o.1 := by
  induction h with
  | nil o => exact ⟨ho, rfl⟩
  | cons h _ ih =>
    obtain ⟨h1, h2, h3, h4⟩ := takeF_inv h
    obtain ⟨q1, q2⟩ := ih (h4.ord h1 h2)
    refine ⟨q1, q2.trans ?_⟩
    cases h4 <;> rfl
/-- Nothing is answered of what isn't asked for. -/
theorem Rn.calm {o w : OrdR} {l : List NotR} (h : Rn o l w) (hp : ¬ pend o) (h1 : o.2.2.2.2.2.2.2.1 ≠ 1) : (∀ n ∈ l, n.2.1 ≠ 5 ∧ n.2.1 ≠ 6) ∧ ¬ pend w := by
  induction h with
  | nil o => exact ⟨(fun n hn => by cases hn), hp⟩
  | @cons o o' w n l h _ ih =>
    obtain ⟨_, _, _, h4⟩ := takeF_inv h
    have key : (¬ pend o') ∧ o'.2.2.2.2.2.2.2.1 ≠ 1 ∧ n.2.1 ≠ 5 ∧ n.2.1 ≠ 6 := by
      cases h4 with
      | ack g1 g2 => exact absurd g1 h1
      | rej g1 g2 => exact absurd g1 h1
      | fil g1 g2 g3 => exact ⟨hp, h1, by omega, by omega⟩
      | all g1 g2 g3 => exact ⟨fun hp => by unfold pend allO at hp; simp at hp, by unfold allO; simp, by omega, by omega⟩
      | out g1 g2 => exact ⟨fun hp => by unfold pend doneF at hp; simp at hp, by unfold doneF; simp, by omega, by omega⟩
      | rep g1 g2 g3 g4 g5 g6 => exact absurd g3 hp
      | ref g1 g2 g3 => exact absurd g3 hp
    obtain ⟨q1, q2⟩ := ih key.1 key.2.1
    refine ⟨fun m hm => ?_, q2⟩
    rcases List.mem_cons.1 hm with rfl | hm
    · exact key.2.2
    · exact q1 m hm

/-- Two orders that are the same but for what is asked for. -/
structure Like (a b : Int) (o o' : OrdR) : Prop where
  op : ordP o'
  id : o'.1 = o.1
  qty : o'.2.2.2.2.1 = o.2.2.2.2.1
  price : o'.2.2.2.2.2.1 = o.2.2.2.2.2.1
  filled : o'.2.2.2.2.2.2.1 = o.2.2.2.2.2.2.1
  phase : o'.2.2.2.2.2.2.2.1 = o.2.2.2.2.2.2.2.1
  not1 : o.2.2.2.2.2.2.2.1 ≠ 1
  calm : ¬ pend o
  asks : o.2.2.2.2.2.2.2.1 = 2 → o'.2.2.2.2.2.2.2.2.1 = a ∧ o'.2.2.2.2.2.2.2.2.2.1 = b
theorem Rn.like {a b : Int} {o w : OrdR} {l : List NotR} (h : Rn o l w) : ∀ {o' : OrdR}, Like a b o o' → ∃ w', Rn o' l w' ∧ Like a b w w' := by
  induction h with
  | nil o => exact fun {o'} hl => ⟨o', .nil _, hl⟩
  | @cons o o1 w n l h _ ih =>
    intro o' hl
    obtain ⟨_, h2, h3, h4⟩ := takeF_inv h
    have key : ∃ o1', Tk o' n o1' ∧ (ordP o1' → Like a b o1 o1') := by
      have p := hl.phase
      have e1 := hl.filled
      have e2 := hl.qty
      cases h4 with
      | ack g1 g2 => exact absurd g1 hl.not1
      | rej g1 g2 => exact absurd g1 hl.not1
      | fil g1 g2 g3 => exact ⟨_, .fil (by omega) g2 (by omega), fun hop => ⟨hop, hl.id, hl.qty, hl.price, by unfold filO; dsimp only; omega, hl.phase, hl.not1, hl.calm, hl.asks⟩⟩
      | all g1 g2 g3 => exact ⟨_, .all (by omega) g2 (by omega), fun hop => ⟨hop, hl.id, hl.qty, hl.price, by unfold allO; dsimp only; omega, rfl, by unfold allO; simp, fun hp => by unfold pend allO at hp; simp at hp, fun hh => by unfold allO at hh; simp at hh⟩⟩
      | out g1 g2 => exact ⟨_, .out (by omega) g2, fun hop => ⟨hop, hl.id, hl.qty, hl.price, hl.filled, rfl, by unfold doneF; simp, fun hp => by unfold pend doneF at hp; simp at hp, fun hh => by unfold doneF at hh; simp at hh⟩⟩
      | rep g1 g2 g3 g4 g5 g6 => exact absurd g3 hl.calm
      | ref g1 g2 g3 => exact absurd g3 hl.calm
    obtain ⟨o1', k1, k2⟩ := key
    obtain ⟨w', q1, q2⟩ := ih (k2 (k1.ord hl.op h2))
    exact ⟨w', .cons (takeF_of hl.op h2 (by rw [hl.id]; exact h3) k1) q1, q2⟩
end Go.AI
