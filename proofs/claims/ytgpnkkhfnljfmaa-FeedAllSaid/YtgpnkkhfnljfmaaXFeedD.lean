/- feed: any feed is what the document says. -/
import Derived.Test.YtgpnkkhfnljfmaaXFeedC
namespace Go.AI
open IntKind

theorem eqN (h : NoteT) : ((h.1 == h.1) && ((h.2.1 == h.2.1) && ((h.2.2.1 == h.2.2.1) && ((h.2.2.2.1 == h.2.2.2.1) && ((h.2.2.2.2.1 == h.2.2.2.2.1) && true))))) = true := by simp
theorem ref_Same (f : FeedT) (hl : f.1.length ≤ 1000) : g_ref17_Same (f, (f, ())) = some true := by
  unfold g_ref17_Same
  simp only [bne_self_eq_false, Bool.or_self, cond_false]
  rw [loop_over0 f.1 (fun i (b : Unit) => ((i : Int), ())) (fun _ _ => (.inl () : Unit ⊕ Bool)) (fun _ _ => True) (b := ()) ?_ ?_ trivial (by rfl)]
  · rfl
  · intro b _
    simp only [ltI', cond_false]
    rfl
  · intro i b hi _
    left
    simp only [ltI hi, cond_true, getI_at hi, Option.bind_some, eqN, Bool.not_true, cond_false]
    exact ⟨(), by rw [wrap_succ (n := i) (by omega)], trivial, trivial⟩
theorem ref_SameNotes (l : List NoteT) (hl : l.length ≤ 1000) : g_ref16_SameNotes (l, (l, ())) = some true := by
  unfold g_ref16_SameNotes
  simp only [bne_self_eq_false, cond_false]
  rw [loop_over0 l (fun i (b : Unit) => ((i : Int), ())) (fun _ _ => (.inl () : Unit ⊕ Bool)) (fun _ _ => True) (b := ()) ?_ ?_ trivial (by rfl)]
  · rfl
  · intro b _
    simp only [ltI', cond_false]
    rfl
  · intro i b hi _
    left
    simp only [ltI hi, cond_true, getI_at hi, Option.bind_some, eqN, Bool.not_true, cond_false]
    exact ⟨(), by rw [wrap_succ (n := i) (by omega)], trivial, trivial⟩
theorem feed_Mend (f : FeedT) : g_feed_Mend (f, ()) = some (f.1, (false, ())) := rfl

theorem awake17 : g_law17_awake () = some true := by
  have e1 : comeF ([], (false, ())) (5, (1, (0, (0, (0, ()))))) 3 = (([(5, (1, (0, (0, (0, ())))))], (false, ())), ([], (0, ()))) := rfl
  have e2 : comeF ([(5, (1, (0, (0, (0, ())))))], (false, ())) (4, (2, (0, (0, (0, ()))))) 3 = (([(4, (2, (0, (0, (0, ()))))), (5, (1, (0, (0, (0, ())))))], (false, ())), ([], (0, ()))) := rfl
  have e3 : comeF ([(4, (2, (0, (0, (0, ()))))), (5, (1, (0, (0, (0, ())))))], (false, ())) (3, (3, (0, (0, (0, ()))))) 3 = (([], (false, ())), ([(3, (3, (0, (0, (0, ()))))), (4, (2, (0, (0, (0, ()))))), (5, (1, (0, (0, (0, ())))))], (0, ()))) := rfl
  have e4 : comeF ([], (false, ())) (15, (0, (0, (0, (0, ()))))) 6 = (([], (true, ())), ([], (0, ()))) := rfl
  have e5 : decide (rightP ([], (false, ())) 6) = true := rfl
  unfold g_law17_awake
  simp only [feed_Come, Option.bind_some, e1, e2, e3, e4, feed_Mend, feed_Right, e5]
  rfl

theorem comeF_len (f : FeedT) (n : NoteT) (nx : Int) (h : f.1.length ≤ 99) : (comeF f n nx).1.1.length ≤ 100 ∧ (comeF f n nx).2.1.length ≤ 100 := by
  have hp : ∀ l : List NoteT, (putF n l).length ≤ l.length + 1 := by
    intro l
    induction l with
    | nil => simp [putF]
    | cons a l ih =>
      unfold putF
      split
      · simp
      · split
        · simp
        · simp; exact ih
  unfold comeF
  split
  · exact ⟨by simp only; omega, by simp⟩
  · split
    · exact ⟨by simp only; omega, by simp⟩
    · split
      · exact ⟨by simp only; omega, by simp⟩
      · split
        · have := rowN_le f.1 (nx + 1)
          exact ⟨by simp; omega, by simp; omega⟩
        · have := hp f.1
          exact ⟨by simp only; omega, by simp⟩

theorem pure_FeedRight (a : FeedT × (NoteT × (Int × Unit))) (h : Rg (consS [shFeed, shNote, .int .i64]) a) : g_law17_FeedRight a = some true := by
  obtain ⟨f, n, nx, ⟨⟩⟩ := a
  obtain ⟨hf, hn, hx, _⟩ := h
  unfold g_law17_FeedRight
  simp only [awake17, Option.bind_some, Bool.not_true, cond_false]
  by_cases c : (f.1.length : Int) > 99
  · rw [decide_eq_true c]; rfl
  rw [decide_eq_false c]
  have hr : ∀ x ∈ f.1, x.1 < 9223372036854775808 := by
    intro x hx
    have := hf.1.2 x hx
    exact (wf_i64 this.1).2
  obtain ⟨l1, l2⟩ := comeF_len f n nx (by omega)
  simp only [cond_false, feed_Come, ref_Come f n nx hr, Option.bind_some, feed_Mend, feed_Right, ref_Right f nx hr, beq_self_eq_true, Bool.and_self, cond_true, ref_Same _ (Nat.le_trans l1 (by omega)), ref_SameNotes _ (Nat.le_trans l2 (by omega)), Bool.not_false, ref_SameNotes f.1 (by omega)]
end Go.AI
