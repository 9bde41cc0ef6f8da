/- cell: what its functions come to, and the reference's. -/
import Derived.Test.YtgpnkkhfnljfmaaXOrderR
namespace Go.AI
abbrev CelR : Type := Int × (Int × (Int × (Int × Unit)))
abbrev ExpR : Type := Int × (Int × (Int × Unit))
def R_CelR (c : CelR) : Prop := R_i64 c.1 ∧ R_i64 c.2.1 ∧ R_i64 c.2.2.1 ∧ R_i64 c.2.2.2.1
theorem fit_R (n : Int) : fit n ↔ R_i64 n := Iff.rfl
def cellP (c : CelR) : Prop := fit (c.1 + c.2.1) ∧ fit (c.2.2.1 - c.1) ∧ 0 ≤ c.2.1 ∧ 0 ≤ c.2.2.1 ∧ 0 ≤ c.2.2.2.1
instance (c : CelR) : Decidable (cellP c) := by unfold cellP; infer_instance
def expoF (c : CelR) : ExpR := (c.1 + c.2.1, (c.2.2.1 - c.1, (c.2.2.2.1, ())))
theorem cell_Right (c : CelR) (rc : R_CelR c) : g_cell_Right (c, ()) = some (decide (cellP c)) := by
  obtain ⟨r1, r2, r3, r4⟩ := rc
  simp only [g_cell_Right, g_cell_expo, num_Add r1 r2, num_Sub r3 r1, Option.bind_some]
  congr 1
  refine dec_of ?_
  unfold cellP
  by_cases f1 : fit (c.1 + c.2.1) <;> by_cases f2 : fit (c.2.2.1 - c.1) <;> simp [f1, f2]
  split <;> split <;> omega
theorem ref08_Right (c : CelR) (rc : R_CelR c) : g_ref08_Right (c, ()) = some (decide (cellP c)) := by
  obtain ⟨r1, r2, r3, r4⟩ := rc
  simp only [g_ref08_Right, ref01_Add r1 r2, ref01_Sub r3 r1, Option.bind_some]
  congr 1
  refine dec_of ?_
  unfold cellP
  by_cases f1 : fit (c.1 + c.2.1) <;> by_cases f2 : fit (c.2.2.1 - c.1) <;> simp [f1, f2, and_assoc]
theorem cell_Of (c : CelR) (rc : R_CelR c) : g_cell_Of (c, ()) = some (if cellP c then (expoF c, (0, ())) else ((0, (0, (0, ()))), (1, ()))) := by
  unfold g_cell_Of
  rw [cell_Right c rc]
  obtain ⟨r1, r2, r3, r4⟩ := rc
  by_cases h : cellP c
  · simp only [h, Option.bind_some, decide_true, Bool.not_true, cond_false, if_true, g_cell_expo, num_Add r1 r2, num_Sub r3 r1, h.1, h.2.1]
    rfl
  · simp [h]
theorem ref08_Of (c : CelR) (h : cellP c) : g_ref08_Of (c, ()) = some (expoF c) := by
  unfold g_ref08_Of expoF
  have h1 := h.1
  have h2 := h.2.1
  unfold fit at h1 h2
  simp only [wrap_of h1.1 h1.2, wrap_of h2.1 h2.2]
theorem worth_R (o : OrdR) : R_i64 (worthF o).1 := by
  have z : R_i64 0 := by unfold R_i64; omega
  unfold worthF
  split
  · exact z
  split
  · exact z
  split
  · exact z
  rename_i f1
  simp only [Classical.not_not] at f1
  split
  · exact f1
  split
  · exact z
  rename_i f2
  simp only [Classical.not_not] at f2
  simp only
  split
  · exact f2
  · exact f1
theorem open_R (o : OrdR) (ro : R_OrdR o) : R_i64 (openF o) := by
  unfold openF
  split
  · rename_i h
    obtain ⟨_, h1, h2, _, h4, _⟩ := h.1
    unfold R_OrdR R_i64 at ro
    unfold R_i64
    split <;> omega
  · unfold R_i64; omega

def sumF (m : Bool) (x y : Int) : Int := bif m then x - y else x + y
def sideF (m : Bool) (c : CelR) (o : OrdR) : Int := if o.2.2.2.1 = 2 then sumF m c.2.2.1 (openF o) else sumF m c.2.1 (openF o)
def cellF (m : Bool) (c : CelR) (o : OrdR) : CelR := if o.2.2.2.1 = 2 then (c.1, (c.2.1, (sideF m c o, (sumF m c.2.2.2.1 (worthF o).1, ())))) else (c.1, (sideF m c o, (c.2.2.1, (sumF m c.2.2.2.1 (worthF o).1, ()))))
def goodF (m : Bool) (c : CelR) (o : OrdR) : Prop := (worthF o).2.1 = 0 ∧ fit (sideF m c o) ∧ fit (sumF m c.2.2.2.1 (worthF o).1) ∧ cellP (cellF m c o)
instance (m : Bool) (c : CelR) (o : OrdR) : Decidable (goodF m c o) := by unfold goodF; infer_instance
def turnF (m : Bool) (c : CelR) (o : OrdR) : CelR × (Int × Unit) := if ¬ (cellP c ∧ ordP o) then (c, (1, ())) else if goodF m c o then (cellF m c o, (0, ())) else (c, (3, ()))

theorem fin_cell (c : CelR) (mk : Int → Int → CelR) (e x y : Int) (hR : fit x → fit y → R_CelR (mk x y)) :
    (bif (((e != 0) || ((if fit x then (x, ((0 : Int), ())) else (0, (3, ()))).2.1 != 0)) || ((if fit y then (y, ((0 : Int), ())) else (0, (3, ()))).2.1 != 0)) then some true
      else (g_cell_Right (mk (if fit x then (x, ((0 : Int), ())) else (0, (3, ()))).1 (if fit y then (y, ((0 : Int), ())) else (0, (3, ()))).1, ())).bind fun v => some (!v)).bind (fun v9 => bif v9 then some (c, ((3 : Int), ()))
      else some (mk (if fit x then (x, ((0 : Int), ())) else (0, (3, ()))).1 (if fit y then (y, ((0 : Int), ())) else (0, (3, ()))).1, ((0 : Int), ())))
    = some (if e = 0 ∧ fit x ∧ fit y ∧ cellP (mk x y) then (mk x y, ((0 : Int), ())) else (c, ((3 : Int), ()))) := by
  by_cases he : e = 0
  · by_cases f1 : fit x
    · by_cases f2 : fit y
      · simp only [he, f1, f2, if_true, cell_Right _ (hR f1 f2)]
        by_cases hd : cellP (mk x y) <;> simp [hd]
      · simp [he, f1, f2]
    · simp [he, f1]
  · have be : (e != 0) = true := by simp [he]
    simp [be, he]
theorem fin_ref (c : CelR) (mk : Int → Int → CelR) (x y : Int) (hR : fit x → fit y → R_CelR (mk x y)) :
    (bif ((!(if fit x then (x, (true, ())) else (0, (false, ()))).2.1) || (!(if fit y then (y, (true, ())) else (0, (false, ()))).2.1)) then some true
      else (g_ref08_Right (mk (if fit x then (x, (true, ())) else (0, (false, ()))).1 (if fit y then (y, (true, ())) else (0, (false, ()))).1, ())).bind fun v => some (!v)).bind (fun v9 => bif v9 then some (c, ((3 : Int), ()))
      else some (mk (if fit x then (x, (true, ())) else (0, (false, ()))).1 (if fit y then (y, (true, ())) else (0, (false, ()))).1, ((0 : Int), ())))
    = some (if fit x ∧ fit y ∧ cellP (mk x y) then (mk x y, ((0 : Int), ())) else (c, ((3 : Int), ()))) := by
  by_cases f1 : fit x
  · by_cases f2 : fit y
    · simp only [f1, f2, if_true, ref08_Right _ (hR f1 f2)]
      by_cases hd : cellP (mk x y) <;> simp [hd]
    · simp [f1, f2]
  · simp [f1]
theorem cell_turn (m : Bool) (c : CelR) (o : OrdR) (rc : R_CelR c) (ro : R_OrdR o) : (bif m then g_cell_Go (c, (o, ())) else g_cell_Come (c, (o, ()))) = some (turnF m c o) := by
  obtain ⟨r1, r2, r3, r4⟩ := id rc
  have hw := worth_R o
  have ho := open_R o ro
  unfold g_cell_Go g_cell_Come turnF
  rw [cell_Right c rc, order_Right]
  by_cases hc : cellP c
  · by_cases hO : ordP o
    · rw [if_neg (by simp [hc, hO])]
      simp only [Option.bind_some, hc, hO, decide_true, Bool.not_true, cond_false, order_Worth o ro, order_OpenF o ro, num_Add r2 ho, num_Add r3 ho, num_Add r4 hw, num_Sub r2 ho, num_Sub r3 ho, num_Sub r4 hw]
      unfold goodF
      by_cases s : o.2.2.2.1 = 2
      · have b : (o.2.2.2.1 == 2) = true := by simp [s]
        cases m <;> simp only [b, cond_true, cond_false, s, sideF, cellF, sumF, if_true] <;> exact fin_cell c (fun x y => (c.1, (c.2.1, (x, (y, ()))))) _ _ _ fun h1 h2 => ⟨r1, r2, h1, h2⟩
      · have b : (o.2.2.2.1 == 2) = false := by simp [s]
        cases m <;> simp only [b, cond_true, cond_false, s, sideF, cellF, sumF, if_false] <;> exact fin_cell c (fun x y => (c.1, (x, (c.2.2.1, (y, ()))))) _ _ _ fun h1 h2 => ⟨r1, h1, r3, h2⟩
    · cases m <;> simp [hc, hO]
  · cases m <;> simp [hc]
theorem cell_Come (c : CelR) (o : OrdR) (rc : R_CelR c) (ro : R_OrdR o) : g_cell_Come (c, (o, ())) = some (turnF false c o) := cell_turn false c o rc ro
theorem cell_Go (c : CelR) (o : OrdR) (rc : R_CelR c) (ro : R_OrdR o) : g_cell_Go (c, (o, ())) = some (turnF true c o) := cell_turn true c o rc ro
theorem ref08_more (m : Bool) {x y : Int} (hx : R_i64 x) (hy : R_i64 y) : g_ref08_more (x, (y, (m, ()))) = some (if fit (sumF m x y) then (sumF m x y, (true, ())) else (0, (false, ()))) := by
  unfold g_ref08_more sumF
  cases m <;> simp [ref01_Add hx hy, ref01_Sub hx hy]
theorem ref08_turn (m : Bool) (c : CelR) (o : OrdR) (rc : R_CelR c) (ro : R_OrdR o) : g_ref08_turn (c, (o, (m, ()))) = some (turnF m c o) := by
  obtain ⟨r1, r2, r3, r4⟩ := id rc
  have hw := worth_R o
  have ho := open_R o ro
  unfold g_ref08_turn turnF
  rw [ref08_Right c rc, ref07_Right]
  by_cases hc : cellP c
  · by_cases hO : ordP o
    · rw [if_neg (by simp [hc, hO])]
      simp only [Option.bind_some, hc, hO, decide_true, Bool.not_true, cond_false, ref07_Worth o ro, ref07_Open o ro, ref08_more m r2 ho, ref08_more m r3 ho, ref08_more m r4 hw]
      unfold goodF
      by_cases e : (worthF o).2.1 = 0
      · have be : ((worthF o).2.1 != 0) = false := by simp [e]
        rw [be]
        simp only [cond_false, e, true_and]
        obtain ⟨⟨_, _, _, _, _, hs, _⟩, _⟩ := id hO
        by_cases s : o.2.2.2.1 = 2
        · have b : (o.2.2.2.1 == 1) = false := by rw [s]; rfl
          simp only [b, cond_false, s, sideF, cellF, if_true, Option.bind_some]
          exact fin_ref c (fun x y => (c.1, (c.2.1, (x, (y, ()))))) _ _ fun h1 h2 => ⟨r1, r2, h1, h2⟩
        · have b : (o.2.2.2.1 == 1) = true := by simp; omega
          simp only [b, cond_true, s, sideF, cellF, if_false, Option.bind_some]
          exact fin_ref c (fun x y => (c.1, (x, (c.2.2.1, (y, ()))))) _ _ fun h1 h2 => ⟨r1, h1, r3, h2⟩
      · have be : ((worthF o).2.1 != 0) = true := by simp [e]
        simp [be, e]
    · simp [hc, hO]
  · simp [hc]
end Go.AI
