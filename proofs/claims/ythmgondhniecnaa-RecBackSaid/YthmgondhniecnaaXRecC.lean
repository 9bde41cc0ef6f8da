/- rec: any record is right or not, has its numbers and its frame; a record with one more field isn't right. -/
import Derived.Test.YthmgondhniecnaaXRecB
namespace Go.AI
theorem rec_awake : g_law06_awake () = some true := by
  have b1 : recB (1, (7, (1, (2, (2, (5, (9, (0, (0, (0, (false, (0, (0, ()))))))))))))) = true := by
    rw [recB_iff]
    simp [recP, recQ]
  have u1 : unp 1 (7, (1, (2, (2, (5, (9, ())))))) = ((1, (7, (1, (2, (2, (5, (9, (0, (0, (0, (false, (0, (0, ()))))))))))))), (0, ())) := by
    have e : unOk 1 (7, (1, (2, (2, (5, (9, ())))))) = true := by
      unfold unOk
      rw [show unv 1 (7, (1, (2, (2, (5, (9, ())))))) = (1, (7, (1, (2, (2, (5, (9, (0, (0, (0, (false, (0, (0, ()))))))))))))) from rfl, b1]
      rfl
    unfold unp
    rw [e]
    rfl
  have u2 : unp 5 (2, (0, (0, (0, (0, (0, ())))))) = (noR, (2, ())) := by
    have e : unOk 5 (2, (0, (0, (0, (0, (0, ())))))) = false := by
      unfold unOk
      rw [show eq6 (packV (unv 5 (2, (0, (0, (0, (0, (0, ())))))))) (2, (0, (0, (0, (0, (0, ())))))) = false from rfl, Bool.and_false]
    unfold unp
    rw [e]
    rfl
  unfold g_law06_awake
  simp only [rec_Pack, rec_Frame, pak, b1, cond_true, Option.bind_some, rec_Unpack, u2]
  simp only [rec_Right, b1]
  rw [show packV (1, (7, (1, (2, (2, (5, (9, (0, (0, (0, (false, (0, (0, ()))))))))))))) = (7, (1, (2, (2, (5, (9, ())))))) from rfl, u1, rec_Of, u1]
  rfl
def nR (n : Int × (Int × (Int × (Int × (Int × Unit))))) : RcR := (6, (n.2.2.1, (0, (0, (0, (n.2.2.2.1, (n.2.2.2.2.1, (0, (0, (0, (false, (n.1, (n.2.1, ())))))))))))))
theorem rec_OfNote (n : Int × (Int × (Int × (Int × (Int × Unit))))) : g_rec_OfNote (n, ()) = some (nR n) := rfl
theorem ref06_OfNote (n : Int × (Int × (Int × (Int × (Int × Unit))))) : g_ref06_OfNote (n, ()) = some (nR n) := rfl
def eqFr (x y : Int × (Int × (Int × (SixR × Unit)))) : Bool := (x.1 == y.1) && ((x.2.1 == y.2.1) && ((x.2.2.1 == y.2.2.1) && ((x.2.2.2.1.1 == y.2.2.2.1.1) && ((x.2.2.2.1.2.1 == y.2.2.2.1.2.1) && ((x.2.2.2.1.2.2.1 == y.2.2.2.1.2.2.1) && ((x.2.2.2.1.2.2.2.1 == y.2.2.2.1.2.2.2.1) && ((x.2.2.2.1.2.2.2.2.1 == y.2.2.2.1.2.2.2.2.1) && ((x.2.2.2.1.2.2.2.2.2.1 == y.2.2.2.1.2.2.2.2.2.1) && true))))))))
theorem eqFr_self (x : Int × (Int × (Int × (SixR × Unit)))) : eqFr x x = true := by
  simp [eqFr]
theorem pure_RecRight (a : RcR × (Int × (SixR × ((Int × (Int × (Int × (Int × (Int × Unit))))) × (Int × (Int × Unit)))))) (_h : Rg (consS [shRec, .int .i64, .cons (.int .i64) shNote, shNote, .int .i64, .int .i64]) a) : g_law06_RecRight a = some true := by
  obtain ⟨r, k, b, n, l, e, u⟩ := a
  have tail : ((g_rec_Unpack (k, (b, ()))).bind fun v12 => (g_ref06_Unpack (k, (b, ()))).bind fun v13 => (g_rec_Of ((e, (l, (k, (b, ())))), ())).bind fun v14 =>
      some ((((eqR v12.1 v13.1 && ((v12.2.1 == 0) == v13.2.1)) && (v13.2.1 || (v12.2.1 == 2))) && eqR v14.1 v12.1) && (v14.2.1 == v12.2.1))) = some true := by
    simp only [rec_Unpack, ref06_Unpack, rec_Of, Option.bind_some]
    unfold unp
    cases unOk k b <;> simp [eqR_self]
  unfold g_law06_RecRight
  simp only [rec_awake, Option.bind_some, Bool.not_true, cond_false, ref06_Right, rec_Right, rec_Pack, bne_self_eq_false, rec_OfNote, ref06_OfNote]
  have f0 : g_rec_Frame (r, (l, (e, u))) = _ := rec_Frame r l e
  simp only [f0, Option.bind_some]
  have s1 := eqR_self (nR n)
  unfold eqR at s1
  simp only [s1, Bool.not_true, cond_false, Option.bind_some]
  unfold pak
  cases hr : recB r
  · simp only [cond_false]
    refine Eq.trans ?_ tail
    rfl
  · simp only [cond_true, ref06_Pack ((recB_iff r).1 hr), Option.bind_some]
    have s2 := eq6_self (packV r)
    unfold eq6 at s2
    have s3 : ((e == e) && ((l == l) && ((r.1 == r.1) && true))) = true := by simp
    simp only [s2, s3, bne_self_eq_false, Bool.not_true, Bool.or_false, cond_false, Option.bind_some]
    exact tail
theorem pure_RecFields (a : RcR × (Int × Unit)) (_h : Rg (consS [shRec, .int .i64]) a) : g_law06_RecFields a = some true := by
  obtain ⟨r, n, u⟩ := a
  unfold g_law06_RecFields
  simp only [rec_awake, Option.bind_some, Bool.not_true, cond_false, rec_Right]
  cases hr : recB r
  · rfl
  by_cases hn : n = 0
  · subst hn; rfl
  have hn' : (n == 0) = false := by simpa using hn
  simp only [hn', Bool.not_true, Bool.or_false, cond_false]
  obtain ⟨k, o, ac, sy, sd, q, p, lo, sh, op, on, sq, w, ⟨⟩⟩ := r
  rw [recB_iff] at hr
  have no : ∀ r : RcR, ¬ recP r → recB r = false := fun r h => by rw [Bool.eq_false_iff, Ne, recB_iff]; exact h
  simp only [recP, recQ] at hr
  have done : ∀ r : RcR, ¬ recP r → ∀ x : Bool, x = true → ((some (recB r)).bind fun v8 => bif v8 then some false else some x) = some true := by
    intro r h x hx
    rw [no r h, hx]
    rfl
  rcases hr with ⟨rfl, hr⟩ | ⟨rfl, hr⟩ | ⟨rfl, hr⟩ | ⟨rfl, hr⟩ | ⟨rfl, hr⟩ | ⟨rfl, hr⟩
  · refine done _ ?_ _ ?_
    · simp only [recP, recQ]; omega
    · simp; omega
  · refine done _ ?_ _ ?_
    · simp only [recP, recQ]; omega
    · simp; omega
  · refine done _ ?_ _ ?_
    · simp only [recP, recQ]; omega
    · simp; omega
  · refine done _ ?_ _ ?_
    · simp only [recP, recQ]; omega
    · simp; omega
  · refine done _ ?_ _ ?_
    · simp only [recP, recQ]; omega
    · simp; omega
  · refine done _ ?_ _ ?_
    · simp only [recP, recQ]; omega
    · simp; omega
end Go.AI
