/- rec: a record's numbers, and the record of numbers, on both sides. -/
import Derived.Test.YthmgondhniecnaaXRecA
namespace Go.AI
abbrev SixR : Type := Int × (Int × (Int × (Int × (Int × (Int × Unit)))))
def eq6 (x y : SixR) : Bool := (x.1 == y.1) && ((x.2.1 == y.2.1) && ((x.2.2.1 == y.2.2.1) && ((x.2.2.2.1 == y.2.2.2.1) && ((x.2.2.2.2.1 == y.2.2.2.2.1) && ((x.2.2.2.2.2.1 == y.2.2.2.2.2.1) && true)))))
theorem eq6_iff (x y : SixR) : eq6 x y = true ↔ x = y := by
  obtain ⟨f1, f2, f3, f4, f5, f6, ⟨⟩⟩ := x
  obtain ⟨g1, g2, g3, g4, g5, g6, ⟨⟩⟩ := y
  simp [eq6, Prod.ext_iff]
theorem eq6_self (x : SixR) : eq6 x x = true := (eq6_iff x x).2 rfl
def eqR (r s : RcR) : Bool := (r.1 == s.1) && ((r.2.1 == s.2.1) && ((r.2.2.1 == s.2.2.1) && ((r.2.2.2.1 == s.2.2.2.1) && ((r.2.2.2.2.1 == s.2.2.2.2.1) && ((r.2.2.2.2.2.1 == s.2.2.2.2.2.1) && ((r.2.2.2.2.2.2.1 == s.2.2.2.2.2.2.1) && ((r.2.2.2.2.2.2.2.1 == s.2.2.2.2.2.2.2.1) && ((r.2.2.2.2.2.2.2.2.1 == s.2.2.2.2.2.2.2.2.1) && ((r.2.2.2.2.2.2.2.2.2.1 == s.2.2.2.2.2.2.2.2.2.1) && ((r.2.2.2.2.2.2.2.2.2.2.1 == s.2.2.2.2.2.2.2.2.2.2.1) && ((r.2.2.2.2.2.2.2.2.2.2.2.1 == s.2.2.2.2.2.2.2.2.2.2.2.1) && ((r.2.2.2.2.2.2.2.2.2.2.2.2.1 == s.2.2.2.2.2.2.2.2.2.2.2.2.1) && true))))))))))))
theorem eqR_iff (r s : RcR) : eqR r s = true ↔ r = s := by
  obtain ⟨a1, a2, a3, a4, a5, a6, a7, a8, a9, a10, a11, a12, a13, ⟨⟩⟩ := r
  obtain ⟨b1, b2, b3, b4, b5, b6, b7, b8, b9, b10, b11, b12, b13, ⟨⟩⟩ := s
  simp [eqR, Prod.ext_iff]
theorem eqR_self (r : RcR) : eqR r r = true := (eqR_iff r r).2 rfl
def packV (r : RcR) : SixR :=
  bif r.1 == 1 then (r.2.1, (r.2.2.1, (r.2.2.2.1, (r.2.2.2.2.1, (r.2.2.2.2.2.1, (r.2.2.2.2.2.2.1, ())))))) else
  bif r.1 == 4 then (r.2.2.1, (r.2.2.2.1, (r.2.2.2.2.2.2.2.1, (r.2.2.2.2.2.2.2.2.1, (r.2.2.2.2.2.2.2.2.2.1, (0, ())))))) else
  bif r.1 == 5 then (bif r.2.2.2.2.2.2.2.2.2.2.1 then (1, (0, (0, (0, (0, (0, ())))))) else (0, (0, (0, (0, (0, (0, ()))))))) else
  bif r.1 == 6 then (r.2.2.2.2.2.2.2.2.2.2.2.1, (r.2.2.2.2.2.2.2.2.2.2.2.2.1, (r.2.1, (r.2.2.2.2.2.1, (r.2.2.2.2.2.2.1, (0, ())))))) else
  (r.2.1, (r.2.2.2.2.2.1, (r.2.2.2.2.2.2.1, (0, (0, (0, ()))))))
def z6 : SixR := (0, (0, (0, (0, (0, (0, ()))))))
noncomputable def pak (r : RcR) : SixR × (Int × Unit) := bif recB r then (packV r, (0, ())) else (z6, (1, ()))
theorem rec_Pack (r : RcR) : g_rec_Pack (r, ()) = some (pak r) := by
  unfold g_rec_Pack pak packV z6
  rw [rec_Right]
  cases recB r
  · rfl
  · simp only [Option.bind_some, Bool.not_true, cond_false, cond_true]
    cases r.1 == 1
    · cases r.1 == 4
      · cases r.1 == 5
        · cases r.1 == 6 <;> rfl
        · cases r.2.2.2.2.2.2.2.2.2.2.1 <;> rfl
      · rfl
    · rfl
theorem ref06_Pack {r : RcR} (h : recP r) : g_ref06_Pack (r, ()) = some (packV r) := by
  obtain ⟨k, o, ac, sy, sd, q, p, lo, sh, op, on, sq, w, ⟨⟩⟩ := r
  unfold g_ref06_Pack packV
  rcases h with ⟨rfl, h⟩ | ⟨rfl, h⟩ | ⟨rfl, h⟩ | ⟨rfl, h⟩ | ⟨rfl, h⟩ | ⟨rfl, h⟩
  · rfl
  · rfl
  · obtain ⟨_, _, _, _, rfl, rfl, _⟩ := h
    rfl
  · rfl
  · cases on <;> rfl
  · rfl
def frmZ : Int × (Int × (Int × (SixR × Unit))) := (0, (0, (0, (z6, ()))))
theorem rec_Frame (r : RcR) (l e : Int) : g_rec_Frame (r, (l, (e, ()))) = some (bif recB r then ((e, (l, (r.1, (packV r, ())))), (0, ())) else (frmZ, (1, ()))) := by
  unfold g_rec_Frame
  rw [rec_Pack]
  unfold pak
  cases recB r <;> rfl
def unv (k : Int) (b : SixR) : RcR :=
  bif k == 1 then (k, (b.1, (b.2.1, (b.2.2.1, (b.2.2.2.1, (b.2.2.2.2.1, (b.2.2.2.2.2.1, (0, (0, (0, (false, (0, (0, ()))))))))))))) else
  bif (k == 2) || (k == 3) then (k, (b.1, (0, (0, (0, (b.2.1, (b.2.2.1, (0, (0, (0, (false, (0, (0, ()))))))))))))) else
  bif k == 4 then (k, (0, (b.1, (b.2.1, (0, (0, (0, (b.2.2.1, (b.2.2.2.1, (b.2.2.2.2.1, (false, (0, (0, ()))))))))))))) else
  bif k == 5 then (k, (0, (0, (0, (0, (0, (0, (0, (0, (0, ((b.1 == 1), (0, (0, ()))))))))))))) else
  bif k == 6 then (k, (b.2.2.1, (0, (0, (0, (b.2.2.2.1, (b.2.2.2.2.1, (0, (0, (0, (false, (b.1, (b.2.1, ()))))))))))))) else
  (k, (0, (0, (0, (0, (0, (0, (0, (0, (0, (false, (0, (0, ())))))))))))))
theorem unv_kind (k : Int) (b : SixR) : (unv k b).1 = k := by
  unfold unv
  cases k == 1 <;> cases k == 2 <;> cases k == 3 <;> cases k == 4 <;> cases k == 5 <;> cases k == 6 <;> rfl
def noR : RcR := (0, (0, (0, (0, (0, (0, (0, (0, (0, (0, (false, (0, (0, ())))))))))))))
noncomputable def unOk (k : Int) (b : SixR) : Bool := recB (unv k b) && eq6 (packV (unv k b)) b
noncomputable def unp (k : Int) (b : SixR) : RcR × (Int × Unit) := bif unOk k b then (unv k b, (0, ())) else (noR, (2, ()))
theorem rec_Unpack (k : Int) (b : SixR) : g_rec_Unpack (k, (b, ())) = some (unp k b) := by
  have key : ∀ r : RcR, (g_rec_Pack (r, ())).bind (fun v7 => bif ((v7.2.1 != 0) || (!((v7.1.1 == b.1) && ((v7.1.2.1 == b.2.1) && ((v7.1.2.2.1 == b.2.2.1) && ((v7.1.2.2.2.1 == b.2.2.2.1) && ((v7.1.2.2.2.2.1 == b.2.2.2.2.1) && ((v7.1.2.2.2.2.2.1 == b.2.2.2.2.2.1) && true)))))))) then some (noR, ((2 : Int), ())) else some (r, ((0 : Int), ()))) = some (bif recB r && eq6 (packV r) b then (r, (0, ())) else (noR, (2, ()))) := by
    intro r
    rw [rec_Pack]
    unfold pak
    cases recB r
    · rfl
    · simp only [Option.bind_some, cond_true, Bool.true_and, bne_self_eq_false, Bool.false_or]
      show (bif !eq6 (packV r) b then _ else _) = _
      cases eq6 (packV r) b <;> rfl
  unfold g_rec_Unpack unp unOk unv
  cases k == 1
  · cases k == 2
    · cases k == 3
      · cases k == 4
        · cases k == 5
          · cases k == 6
            · exact key _
            · exact key _
          · exact key _
        · exact key _
      · exact key _
    · exact key _
  · exact key _
theorem rec_Of (e l k : Int) (b : SixR) (u : Unit) : g_rec_Of ((e, (l, (k, (b, u)))), ()) = some (unp k b) := by
  unfold g_rec_Of
  rw [show g_rec_Unpack ((e, l, k, b, u), ()).1.2.2 = some (unp k b) from rec_Unpack k b]
  rfl
theorem recB_kind {r : RcR} (h : recB r = true) : 1 ≤ r.1 ∧ r.1 ≤ 6 := by
  rw [recB_iff] at h
  rcases h with ⟨h, _⟩ | ⟨h, _⟩ | ⟨h, _⟩ | ⟨h, _⟩ | ⟨h, _⟩ | ⟨h, _⟩ <;> omega
theorem neq0 (n : Int) : (n != 0) = !(n == 0) := rfl
theorem zeq (n : Int) : ((0 : Int) == n) = (n == 0) := by rw [Bool.eq_iff_iff]; simp; omega
theorem ref06_Unpack (k : Int) (b : SixR) : g_ref06_Unpack (k, (b, ())) = some (bif unOk k b then (unv k b, (true, ())) else (noR, (false, ()))) := by
  obtain ⟨b0, b1, b2, b3, b4, b5, ⟨⟩⟩ := b
  unfold g_ref06_Unpack unOk
  simp only [ref06_Right, Option.bind_some]
  by_cases h1 : k = 1
  · subst h1
    have e : eq6 (packV (unv 1 (b0, (b1, (b2, (b3, (b4, (b5, ())))))))) (b0, (b1, (b2, (b3, (b4, (b5, ())))))) = true := eq6_self _
    rw [e, Bool.and_true]
    show (bif !recB (unv 1 (b0, (b1, (b2, (b3, (b4, (b5, ()))))))) then _ else _) = _
    cases recB (unv 1 (b0, (b1, (b2, (b3, (b4, (b5, ()))))))) <;> rfl
  by_cases h2 : k = 2
  · subst h2
    have e : eq6 (packV (unv 2 (b0, (b1, (b2, (b3, (b4, (b5, ())))))))) (b0, (b1, (b2, (b3, (b4, (b5, ())))))) = ((b3 == 0) && ((b4 == 0) && (b5 == 0))) := by
      simp [eq6, packV, unv, zeq]
    rw [e]
    simp only [neq0]
    show (bif !(b3 == 0) then _ else bif !(b4 == 0) then _ else bif !(b5 == 0) then _ else bif !recB (unv 2 (b0, (b1, (b2, (b3, (b4, (b5, ()))))))) then _ else _) = _
    cases b3 == 0 <;> cases b4 == 0 <;> cases b5 == 0 <;> cases recB (unv 2 (b0, (b1, (b2, (b3, (b4, (b5, ()))))))) <;> rfl
  by_cases h3 : k = 3
  · subst h3
    have e : eq6 (packV (unv 3 (b0, (b1, (b2, (b3, (b4, (b5, ())))))))) (b0, (b1, (b2, (b3, (b4, (b5, ())))))) = ((b3 == 0) && ((b4 == 0) && (b5 == 0))) := by
      simp [eq6, packV, unv, zeq]
    rw [e]
    by_cases c1 : b1 = 0
    · by_cases c2 : b2 = 0
      · subst c1 c2
        simp only [neq0]
        show (bif !(b3 == 0) then _ else bif !(b4 == 0) then _ else bif !(b5 == 0) then _ else bif !recB (unv 3 (b0, (0, (0, (b3, (b4, (b5, ()))))))) then _ else _) = _
        cases b3 == 0 <;> cases b4 == 0 <;> cases b5 == 0 <;> cases recB (unv 3 (b0, (0, (0, (b3, (b4, (b5, ()))))))) <;> rfl
      · have hr : recB (unv 3 (b0, (b1, (b2, (b3, (b4, (b5, ()))))))) = false := by
          rw [Bool.eq_false_iff, Ne, recB_iff]
          intro h
          simp [recP, recQ, unv] at h
          omega
        have c2' : (b2 != 0) = true := by simpa using c2
        subst c1
        rw [hr, c2']
        rfl
    · have hr : recB (unv 3 (b0, (b1, (b2, (b3, (b4, (b5, ()))))))) = false := by
        rw [Bool.eq_false_iff, Ne, recB_iff]
        intro h
        simp [recP, recQ, unv] at h
        omega
      have c1' : (b1 != 0) = true := by simpa using c1
      rw [hr, c1']
      rfl
  by_cases h4 : k = 4
  · subst h4
    have e : eq6 (packV (unv 4 (b0, (b1, (b2, (b3, (b4, (b5, ())))))))) (b0, (b1, (b2, (b3, (b4, (b5, ())))))) = (b5 == 0) := by
      simp [eq6, packV, unv, zeq]
    rw [e]
    simp only [neq0]
    show (bif !(b5 == 0) then _ else bif !recB (unv 4 (b0, (b1, (b2, (b3, (b4, (b5, ()))))))) then _ else _) = _
    cases b5 == 0 <;> cases recB (unv 4 (b0, (b1, (b2, (b3, (b4, (b5, ()))))))) <;> rfl
  by_cases h5 : k = 5
  · subst h5
    have hr : recB (unv 5 (b0, (b1, (b2, (b3, (b4, (b5, ()))))))) = true := by
      rw [recB_iff]
      simp [recP, recQ, unv]
    have hr2 : ∀ on : Bool, recB (5, (0, (0, (0, (0, (0, (0, (0, (0, (0, (on, (0, (0, ()))))))))))))) = true := by
      intro on
      rw [recB_iff]
      simp [recP, recQ]
    have e : eq6 (packV (unv 5 (b0, (b1, (b2, (b3, (b4, (b5, ())))))))) (b0, (b1, (b2, (b3, (b4, (b5, ())))))) = (((b0 == 0) || (b0 == 1)) && ((b1 == 0) && ((b2 == 0) && ((b3 == 0) && ((b4 == 0) && (b5 == 0)))))) := by
      by_cases c : b0 = 1
      · subst c
        simp [eq6, packV, unv, zeq]
      · have c' : (b0 == 1) = false := by simpa using c
        simp [eq6, packV, unv, zeq, c']
    rw [e, hr]
    simp only [hr2, neq0]
    by_cases c0 : b0 = 0
    · subst c0
      show (bif !(b1 == 0) then _ else bif !(b2 == 0) then _ else bif !(b3 == 0) then _ else bif !(b4 == 0) then _ else bif !(b5 == 0) then _ else _) = _
      cases b1 == 0 <;> cases b2 == 0 <;> cases b3 == 0 <;> cases b4 == 0 <;> cases b5 == 0 <;> rfl
    · by_cases c1 : b0 = 1
      · subst c1
        show (bif !(b1 == 0) then _ else bif !(b2 == 0) then _ else bif !(b3 == 0) then _ else bif !(b4 == 0) then _ else bif !(b5 == 0) then _ else _) = _
        cases b1 == 0 <;> cases b2 == 0 <;> cases b3 == 0 <;> cases b4 == 0 <;> cases b5 == 0 <;> rfl
      · have d0 : (b0 == 0) = false := by simpa using c0
        have d1 : (b0 == 1) = false := by simpa using c1
        have d2 : (b0 != 1) = true := by simpa using c1
        rw [d0, d1, d2]
        rfl
  by_cases h6 : k = 6
  · subst h6
    have e : eq6 (packV (unv 6 (b0, (b1, (b2, (b3, (b4, (b5, ())))))))) (b0, (b1, (b2, (b3, (b4, (b5, ())))))) = (b5 == 0) := by
      simp [eq6, packV, unv, zeq]
    rw [e]
    simp only [neq0]
    show (bif !(b5 == 0) then _ else bif !recB (unv 6 (b0, (b1, (b2, (b3, (b4, (b5, ()))))))) then _ else _) = _
    cases b5 == 0 <;> cases recB (unv 6 (b0, (b1, (b2, (b3, (b4, (b5, ()))))))) <;> rfl
  have hr : ∀ r : RcR, r.1 = k → recB r = false := by
    intro r h
    cases e : recB r
    · rfl
    · have := recB_kind e
      omega
  have e : ∀ j : Int, k ≠ j → (k == j) = false := fun j h => by simpa using h
  simp only [e 1 h1, e 2 h2, e 3 h3, e 4 h4, e 5 h5, e 6 h6, cond_false, hr _ (unv_kind k _), Bool.false_and]
  rw [hr _ rfl]
  rfl
end Go.AI
