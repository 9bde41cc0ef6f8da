/- limit: what its functions come to; its laws. -/
import Derived.Test.YtgelpkghkgagfaaPNum
namespace Go.AI
set_option linter.unusedVariables false
set_option linter.unusedSimpArgs false

/-- Numbers added in order, if all sums fit. -/
def tot : Int → List Int → Option Int
  | s, [] => some s
  | s, x :: l => if fit (s + x) then tot (s + x) l else none

theorem tot_fit : ∀ {l : List Int} {s n : Int}, fit s → tot s l = some n → fit n
  | [], s, n, hs, h => by cases h; exact hs
  | x :: l, s, n, hs, h => by
    unfold tot at h
    split at h
    · exact tot_fit ‹_› h
    · cases h

theorem num_Total {l : List Int} (hl : l.length < 9223372036854775807) (h : ∀ x ∈ l, R_i64 x) : g_num_Total l = some (match tot 0 l with | some n => (n, 0) | none => (0, 3)) := by
  have key : ∀ (m : List Int) (s : Int), (∀ x ∈ m, R_i64 x) → fit s → foldE (fun (s : Int) (x : Int) => some (if fit (s + x) then .inl (s + x) else .inr (Sum.inr ((0 : Int), (3 : Int))))) (fun s => Sum.inl s) s m = some (match tot s m with | some n => .inl n | none => .inr (0, 3)) := by
    intro m
    induction m with
    | nil => intro s _ _; rfl
    | cons x m ih =>
      intro s hm hs
      unfold foldE tot
      by_cases hf : fit (s + x)
      · simp only [hf, if_true]
        exact ih _ (fun y hy => hm y (by simp [hy])) hf
      · simp only [hf, if_false]
  unfold g_num_Total
  have hz : ((0 : Int), (0 : Int)) = (((0 : Nat) : Int), (0 : Int)) := rfl
  rw [hz, loop_list (xs := l) (fun (s : Int) (x : Int) => some (if fit (s + x) then .inl (s + x) else .inr (Sum.inr ((0 : Int), (3 : Int))))) (fun s => Sum.inl s) (fun _ s => fit s) ?_ ?_ (Nat.zero_le _) (by decide), List.drop_zero, key l 0 h (by decide)]
  · cases tot 0 l <;> rfl
  · intro i s x hs hx
    have hlt := (List.getElem?_eq_some_iff.1 hx).1
    have hxm := h x (List.mem_of_getElem? hx)
    refine ⟨?_, ?_⟩
    · unfold g_num_Total_l0
      simp only [getO_nat, hx, Option.bind_some, num_Add hs hxm]
      rw [show (decide ((i : Int) < (l.length : Int))) = true by simp; omega]
      by_cases hf : fit (s + x)
      · simp only [hf, if_true, cond_true, Option.bind_some, bne_self_eq_false, cond_false, Option.map_some]
        rw [wrap_of (by omega) (by omega)]
        rfl
      · simp only [hf, if_false, cond_true, Option.bind_some, Option.map_some]
        rfl
    · intro b' hb
      simp only [Option.some.injEq] at hb
      split at hb
      · cases hb; assumption
      · cases hb
  · intro s _
    unfold g_num_Total_l0
    simp

theorem limit_Whole {l : List CellT} (hl : l.length ≤ 100) (h : ∀ x ∈ l, R_CellT x) : g_limit_Whole l = some (match tot 0 (l.map (·.Open)) with | some n => (n, 0) | none => (0, 3)) := by
  have key : ∀ (m : List CellT) (s : List Int), foldE (fun (s : List Int) (x : CellT) => some (.inl (s ++ [x.Open]))) (fun s => s) s m = some (s ++ m.map (·.Open)) := by
    intro m
    induction m with
    | nil => intro s; simp [foldE]
    | cons x m ih => intro s; unfold foldE; simp only [ih]; simp
  unfold g_limit_Whole
  have hz : ((0 : Int), ([] : List Int)) = (((0 : Nat) : Int), ([] : List Int)) := rfl
  rw [hz, loop_list (xs := l) (fun (s : List Int) (x : CellT) => some (.inl (s ++ [x.Open]))) (fun s => s) (fun i s => s.length = i) ?_ ?_ (Nat.zero_le _) rfl, List.drop_zero, key]
  · simp only [List.nil_append, Option.bind_some]
    rw [num_Total (by simp; omega) (by simp only [List.mem_map]; rintro x ⟨c, hc, rfl⟩; exact (h c hc).2.2.2.1)]
    simp
  · intro i s x hs hx
    have hlt := (List.getElem?_eq_some_iff.1 hx).1
    refine ⟨?_, ?_⟩
    · unfold g_limit_Whole_l0
      simp only [getO_nat, hx, Option.bind_some]
      rw [show (decide ((i : Int) < (l.length : Int))) = true by simp; omega, cond_true, if_pos (room_le (m := 100) (by omega) (by decide)), wrap_of (by omega) (by omega)]
      rfl
    · intro b' hb
      cases hb
      simp [hs]
  · intro s _
    unfold g_limit_Whole_l0
    simp

theorem ref09_Whole {l : List CellT} (hl : l.length ≤ 100) (h : ∀ x ∈ l, R_CellT x) : g_snaffleref09_Whole l = some (match tot 0 (l.map (·.Open)) with | some n => (n, true) | none => (0, false)) := by
  have key : ∀ (m : List CellT) (s : Int), fit s → foldE (fun (s : Int) (x : CellT) => some (if fit (s + x.Open) then .inl (s + x.Open) else .inr (Sum.inr ((0 : Int), false)))) (fun s => Sum.inl s) s m = some (match tot s (m.map (·.Open)) with | some n => .inl n | none => .inr (0, false)) := by
    intro m
    induction m with
    | nil => intro s _; rfl
    | cons x m ih =>
      intro s hs
      unfold foldE
      simp only [List.map_cons]
      unfold tot
      by_cases hf : fit (s + x.Open)
      · simp only [hf, if_true]
        exact ih _ hf
      · simp only [hf, if_false]
  unfold g_snaffleref09_Whole
  have hz : ((0 : Int), (0 : Int)) = (((0 : Nat) : Int), (0 : Int)) := rfl
  rw [hz, loop_list (xs := l) (fun (s : Int) (x : CellT) => some (if fit (s + x.Open) then .inl (s + x.Open) else .inr (Sum.inr ((0 : Int), false)))) (fun s => Sum.inl s) (fun _ s => fit s) ?_ ?_ (Nat.zero_le _) (by decide), List.drop_zero, key l 0 (by decide)]
  · cases tot 0 (l.map (·.Open)) <;> rfl
  · intro i s x hs hx
    have hlt := (List.getElem?_eq_some_iff.1 hx).1
    have hxm := (h x (List.mem_of_getElem? hx)).2.2.2.1
    refine ⟨?_, ?_⟩
    · unfold g_snaffleref09_Whole_l0
      simp only [getO_nat, hx, Option.bind_some, ref01_Add hs hxm]
      rw [show (decide ((i : Int) < (l.length : Int))) = true by simp; omega]
      by_cases hf : fit (s + x.Open)
      · simp only [hf, if_true, cond_true, Option.bind_some, Bool.not_true, cond_false, Option.map_some]
        rw [wrap_of (by omega) (by omega)]
        rfl
      · simp only [hf, if_false, cond_true, Option.bind_some, Option.map_some]
        rfl
    · intro b' hb
      simp only [Option.some.injEq] at hb
      split at hb
      · cases hb; assumption
      · cases hb
  · intro s _
    unfold g_snaffleref09_Whole_l0
    simp

def against (w n l : ExpoT) : Bool := decide (n.Long > w.Long ∧ n.Long > l.Long) || decide (n.Short > w.Short ∧ n.Short > l.Short) || decide (n.Open > w.Open ∧ n.Open > l.Open)
def covers (a b : ExpoT) : Bool := decide (a.Long ≥ b.Long ∧ a.Short ≥ b.Short ∧ a.Open ≥ b.Open)

theorem limit_Cap (a b c : Int) : g_limit_AgainstCap a b c = some (decide (b > a ∧ b > c)) := by
  unfold g_limit_AgainstCap
  congr 1
  rw [decide_eq_decide]
  split <;> omega
theorem ref09_Cap (a b c : Int) : g_snaffleref09_Cap a b c = some (decide (b > a ∧ b > c)) := by
  unfold g_snaffleref09_Cap
  congr 1
  simp
theorem limit_Against (w n l : ExpoT) : g_limit_Against w n l = some (against w n l) := by
  unfold g_limit_Against g_limit_three against
  simp only [Option.bind_some, limit_Cap]
  cases decide (n.Long > w.Long ∧ n.Long > l.Long) <;> cases decide (n.Short > w.Short ∧ n.Short > l.Short) <;> cases decide (n.Open > w.Open ∧ n.Open > l.Open) <;> rfl
theorem ref09_Against (w n l : ExpoT) : g_snaffleref09_Against w n l = some (against w n l) := by
  unfold g_snaffleref09_Against against
  simp only [Option.bind_some, ref09_Cap]
  cases decide (n.Long > w.Long ∧ n.Long > l.Long) <;> cases decide (n.Short > w.Short ∧ n.Short > l.Short) <;> cases decide (n.Open > w.Open ∧ n.Open > l.Open) <;> rfl
theorem limit_Right (l : ExpoT) : g_limit_Right l = some (decide (l.Long ≥ 0 ∧ l.Short ≥ 0 ∧ l.Open ≥ 0)) := by
  unfold g_limit_Right
  congr 1
  rw [decide_eq_decide]
  split <;> split <;> omega
theorem ref09_Right (l : ExpoT) : g_snaffleref09_Right l = some (decide (l.Long ≥ 0 ∧ l.Short ≥ 0 ∧ l.Open ≥ 0)) := by
  unfold g_snaffleref09_Right
  congr 1
  simp [Bool.and_assoc]
theorem limit_Lowers (w n : ExpoT) : g_limit_Lowers w n = some (!covers n w) := by
  unfold g_limit_Lowers covers
  congr 1
  rw [Bool.eq_iff_iff]
  simp
  omega
theorem ref09_Lowers (w n : ExpoT) : g_snaffleref09_Lowers w n = some (!covers n w) := by
  unfold g_snaffleref09_Lowers covers
  congr 1
  rw [Bool.eq_iff_iff]
  simp
  omega
theorem cell_Covers (a b : ExpoT) : g_cell_Covers a b = some (covers a b) := by
  unfold g_cell_Covers covers
  congr 1
  simp [Bool.and_assoc]

theorem limit_awake : g_snafflelaw09_awake = some true := by
  unfold g_snafflelaw09_awake
  rw [limit_Whole (by decide) (by intro x hx; simp at hx; rcases hx with rfl | rfl <;> simp [R_CellT, R_i64])]
  simp only [limit_Right, limit_Against, limit_Cap, limit_Lowers, Option.bind_some]
  simp [tot, fit, against, covers]

theorem pure_g_snafflelaw09_LimitRight (w n l : ExpoT) (a b c : Int) (cells : List CellT) (_ : R_ExpoT w) (_ : R_ExpoT n) (_ : R_ExpoT l) (_ : R_i64 a) (_ : R_i64 b) (_ : R_i64 c) (hc : R_sl R_CellT cells) : g_snafflelaw09_LimitRight w n l a b c cells = some true := by
  unfold g_snafflelaw09_LimitRight
  rw [limit_awake]
  simp only [Option.bind_some, Bool.not_true, cond_false]
  by_cases h : (cells.length : Int) > 100
  · simp [h]
  · rw [limit_Whole (by omega) hc.2, ref09_Whole (by omega) hc.2]
    simp only [decide_eq_false h, cond_false, limit_Right, ref09_Right, limit_Against, ref09_Against, limit_Cap, ref09_Cap, limit_Lowers, ref09_Lowers, Option.bind_some, beq_self_eq_true, cond_true]
    cases tot 0 (cells.map (·.Open)) <;> simp

theorem pure_g_snafflelaw09_LimitKeeps (w n l m : ExpoT) (_ : R_ExpoT w) (_ : R_ExpoT n) (_ : R_ExpoT l) (_ : R_ExpoT m) : g_snafflelaw09_LimitKeeps w n l m = some true := by
  unfold g_snafflelaw09_LimitKeeps
  rw [limit_awake]
  simp only [Option.bind_some, Bool.not_true, cond_false, limit_Against, cell_Covers, limit_Lowers]
  have e1 : (covers l w && !against w n l && !covers l n || covers w n && against w n l || covers l n && against w n l) = false := by
    rw [Bool.eq_false_iff]
    simp [covers, against]
    omega
  have e2 : (!(!covers m l) && against w n m && !against w n l) = false := by
    rw [Bool.eq_false_iff]
    simp [covers, against]
    omega
  revert e1 e2
  cases covers l w <;> cases against w n l <;> cases covers l n <;> cases covers w n <;> cases covers m l <;> cases against w n m <;> simp

theorem tot_append : ∀ (l m : List Int) (s : Int), tot s (l ++ m) = (tot s l).bind fun n => tot n m
  | [], m, s => rfl
  | x :: l, m, s => by
    simp only [List.cons_append, tot]
    split
    · exact tot_append l m _
    · rfl

/-- What is added to another number is that much more. -/
theorem tot_shift : ∀ (l : List Int) {s d n k : Int}, tot s l = some n → tot d l = some k → n - s = k - d
  | [], s, d, n, k, h, h' => by cases h; cases h'; omega
  | x :: l, s, d, n, k, h, h' => by
    unfold tot at h h'
    split at h
    · split at h'
      · have := tot_shift l h h'; omega
      · cases h'
    · cases h

theorem pure_g_snafflelaw09_LimitSteps (a b c l : ExpoT) (cells : List CellT) (cut : Int) (_ : R_ExpoT a) (_ : R_ExpoT b) (_ : R_ExpoT c) (_ : R_ExpoT l) (hc : R_sl R_CellT cells) (hk : R_u8 cut) : g_snafflelaw09_LimitSteps a b c l cells cut = some true := by
  unfold g_snafflelaw09_LimitSteps
  rw [limit_awake]
  simp only [Option.bind_some, Bool.not_true, cond_false]
  by_cases h : (cells.length : Int) > 100
  · simp [h]
  unfold R_u8 at hk
  rw [wrap_of (n := (cells.length : Int) + 1) (by omega) (by omega), wrap_of (n := cut) (by omega) (by omega)]
  simp only [decide_eq_false h, cond_false, limit_Against, Option.bind_some]
  have e1 : (!against a b l && !against b c l && against a c l) = false := by
    rw [Bool.eq_false_iff]
    simp [against]
    omega
  obtain ⟨k, hk'⟩ := Int.eq_ofNat_of_zero_le (show 0 ≤ Int.tmod cut ((cells.length : Int) + 1) from Int.tmod_nonneg _ hk.1)
  have hkl : (k : Int) < (cells.length : Int) + 1 := by rw [← hk']; exact Int.tmod_lt_of_pos _ (by omega)
  rw [hk']
  have c1 : cutO cells 0 (k : Int) = some (cells.take k) := by
    unfold cutO
    rw [if_pos (by omega)]
    simp
  have c2 : cutO cells (k : Int) (cells.length : Int) = some (cells.drop k) := by
    unfold cutO
    rw [if_pos (by omega)]
    simp
  have m1 : ∀ x ∈ cells.take k, R_CellT x := fun x hx => hc.2 x (List.mem_of_mem_take hx)
  have m2 : ∀ x ∈ cells.drop k, R_CellT x := fun x hx => hc.2 x (List.mem_of_mem_drop hx)
  rw [if_pos (by omega), limit_Whole (by omega) hc.2, c1, c2]
  simp only [Option.bind_some]
  rw [limit_Whole (by simp; omega) m1, limit_Whole (by simp; omega) m2]
  have hsp : cells.map (·.Open) = (cells.take k).map (·.Open) ++ (cells.drop k).map (·.Open) := by rw [← List.map_append, List.take_append_drop]
  have fin : (if True then Option.bind (some (match tot 0 (cells.map (·.Open)) with | some n => (n, (0 : Int)) | none => (0, 3))) (fun v10 => Option.bind (some (match tot 0 ((cells.take k).map (·.Open)) with | some n => (n, (0 : Int)) | none => (0, 3))) fun v12 =>
      Option.bind (some (match tot 0 ((cells.drop k).map (·.Open)) with | some n => (n, (0 : Int)) | none => (0, 3))) fun v14 => bif (((v10.2 != 0) || (v12.2 != 0)) || (v14.2 != 0)) then (some ((v10.1 == 0) || (v10.2 == 0))) else (some ((IntKind.wrap .i64 (v10.1 - v12.1)) == v14.1))) else none) = some true := by
    rw [hsp, tot_append]
    generalize (cells.take k).map (·.Open) = A
    generalize (cells.drop k).map (·.Open) = D
    cases h1 : tot 0 A with
    | none => cases tot 0 D <;> simp
    | some n =>
      cases h2 : tot n D with
      | none => cases tot 0 D <;> simp [h2]
      | some z =>
        cases h3 : tot 0 D with
        | none => simp [h2]
        | some y =>
          have hy := tot_fit (by decide) h3
          have := tot_shift _ h2 h3
          unfold fit at hy
          simp [h2]
          rw [wrap_of (by omega) (by omega)]
          omega
  simp only [if_true] at fin
  revert e1
  cases against a b l <;> cases against b c l <;> cases against a c l <;> simp <;> simpa using fin
end Go.AI
