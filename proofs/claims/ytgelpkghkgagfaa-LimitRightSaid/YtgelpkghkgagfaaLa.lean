import Derived.Test.YtgelpkghkgagfaaProg
import Derived.Test.YtgelpkghkgagfaaALj
namespace Go.AI
open Go.Proofs
set_option linter.unusedVariables false
set_option linter.unusedSimpArgs false
structure CellT where
  Pos : Int
  Buy : Int
  Sell : Int
  Open : Int
  deriving DecidableEq
def e_CellT (x : CellT) : List DV := [(.int .i64 x.Pos), (.int .i64 x.Buy), (.int .i64 x.Sell), (.int .i64 x.Open)]
theorem e_CellT_inj {x y : CellT} (h : e_CellT x = e_CellT y) : x = y := by
  obtain ⟨a1, a2, a3, a4⟩ := x
  obtain ⟨b1, b2, b3, b4⟩ := y
  simp only [e_CellT, List.cons.injEq, DV.int.injEq, DV.bool.injEq, DV.str.injEq, DV.sl.injEq, true_and, and_true] at h
  obtain ⟨h0, h1, h2, h3⟩ := h
  cases h0
  cases h1
  cases h2
  cases h3
  rfl
structure ExpoT where
  Long : Int
  Short : Int
  Open : Int
  deriving DecidableEq
def e_ExpoT (x : ExpoT) : List DV := [(.int .i64 x.Long), (.int .i64 x.Short), (.int .i64 x.Open)]
theorem e_ExpoT_inj {x y : ExpoT} (h : e_ExpoT x = e_ExpoT y) : x = y := by
  obtain ⟨a1, a2, a3⟩ := x
  obtain ⟨b1, b2, b3⟩ := y
  simp only [e_ExpoT, List.cons.injEq, DV.int.injEq, DV.bool.injEq, DV.str.injEq, DV.sl.injEq, true_and, and_true] at h
  obtain ⟨h0, h1, h2⟩ := h
  cases h0
  cases h1
  cases h2
  rfl
def R_CellT (x : CellT) : Prop := R_i64 x.Pos ∧ R_i64 x.Buy ∧ R_i64 x.Sell ∧ R_i64 x.Open ∧ True
theorem has_CellT {ds : List DV} (h : HasSh (.cons (.int .i64) (.cons (.int .i64) (.cons (.int .i64) (.cons (.int .i64) .nil)))) ds) : ∃ x : CellT, ds = e_CellT x ∧ R_CellT x := by
  obtain ⟨_, _, rfl, _, hf, h⟩ := h
  obtain ⟨x0, rfl, r0⟩ := has_i64 hf
  obtain ⟨_, _, rfl, _, hf, h⟩ := h
  obtain ⟨x1, rfl, r1⟩ := has_i64 hf
  obtain ⟨_, _, rfl, _, hf, h⟩ := h
  obtain ⟨x2, rfl, r2⟩ := has_i64 hf
  obtain ⟨_, _, rfl, _, hf, h⟩ := h
  obtain ⟨x3, rfl, r3⟩ := has_i64 hf
  cases h
  exact ⟨⟨x0, x1, x2, x3⟩, rfl, ⟨r0, r1, r2, r3, trivial⟩⟩
def R_ExpoT (x : ExpoT) : Prop := R_i64 x.Long ∧ R_i64 x.Short ∧ R_i64 x.Open ∧ True
theorem has_ExpoT {ds : List DV} (h : HasSh (.cons (.int .i64) (.cons (.int .i64) (.cons (.int .i64) .nil))) ds) : ∃ x : ExpoT, ds = e_ExpoT x ∧ R_ExpoT x := by
  obtain ⟨_, _, rfl, _, hf, h⟩ := h
  obtain ⟨x0, rfl, r0⟩ := has_i64 hf
  obtain ⟨_, _, rfl, _, hf, h⟩ := h
  obtain ⟨x1, rfl, r1⟩ := has_i64 hf
  obtain ⟨_, _, rfl, _, hf, h⟩ := h
  obtain ⟨x2, rfl, r2⟩ := has_i64 hf
  cases h
  exact ⟨⟨x0, x1, x2⟩, rfl, ⟨r0, r1, r2, trivial⟩⟩
def k32_0 : ACode := (.region (⟨(some 7), (.p (.mv (.t 0))), none⟩ :: ⟨(some 8), (.p (.mv (.t 1))), none⟩ :: ⟨(some 9), (.p (.bin .add (.t 7) (.t 8))), none⟩ :: ⟨(some 6), (.p (.mv (.t 9))), none⟩ :: []))
def k32_1 : ACode := (.region (⟨(some 10), (.p (.mv (.t 6))), none⟩ :: ⟨(some 11), (.p (.mv (.t 0))), none⟩ :: ⟨(some 12), (.p (.bin .gtr (.t 10) (.t 11))), none⟩ :: ⟨(some 13), (.p (.mv (.t 1))), none⟩ :: ⟨(some 14), (.p (.bin .gtr (.t 13) (.c (.int .i64 0)))), none⟩ :: ⟨(some 15), (.p (.eqb true (.t 12) (.t 14))), none⟩ :: ⟨(some 16), (.p (.mv (.t 15))), none⟩ :: ⟨(some 17), (.p (.mv (.t 1))), (some (16, true))⟩ :: ⟨(some 18), (.p (.bin .neq (.t 17) (.c (.int .i64 0)))), (some (16, true))⟩ :: ⟨(some 19), (.p (.pick (.t 16) (.t 18) (.c (.bool false)))), none⟩ :: []))
def k32_2 : ACode := (.cond (.t 19) (.seq (.region (⟨(some 4), (.p (.mv (.c (.int .i64 0)))), none⟩ :: ⟨(some 5), (.p (.mv (.c (.int .i64 3)))), none⟩ :: [])) .ret) .skip)
def k32_3 : ACode := (.seq k32_1 k32_2)
def k32_4 : ACode := (.seq (.region (⟨(some 20), (.p (.mv (.t 6))), none⟩ :: ⟨(some 4), (.p (.mv (.t 20))), none⟩ :: ⟨(some 5), (.p (.mv (.c (.int .i64 0)))), none⟩ :: [])) .ret)
def k32_5 : ACode := (.seq k32_3 k32_4)
def k32_6 : ACode := (.seq k32_0 k32_5)
def cd32 : ACode := (.seq (.region (⟨(some 4), (.p (.mv (.c (.int .i64 0)))), none⟩ :: ⟨(some 5), (.p (.mv (.c (.int .i64 0)))), none⟩ :: [])) k32_6)
def rs32 : List ARes := [(.tmp 4), (.tmp 5)]
def af32 : AFn := ⟨cd32, rs32, 21⟩
theorem c32 : compF Try.prog 32 = some af32 := by kernel_rfl
noncomputable def g_num_Add (p_a : Int) (p_b : Int) : Option (Int × Int) := (bif (((decide ((IntKind.wrap .i64 (p_a + p_b)) > p_a)) != (decide (p_b > 0))) && (p_b != 0)) then (some (0, 3)) else (some ((IntKind.wrap .i64 (p_a + p_b)), 0)))
noncomputable def sp32 : List DV → Option DV := specT (fun (a : Int × Int) => [.int .i64 a.1, .int .i64 a.2]) (fun (r : (Int × Int)) => .tup [.int .i64 r.1, .int .i64 r.2]) (fun (a : Int × Int) => g_num_Add a.1 a.2)
theorem inj32 : ∀ (a b : Int × Int), List.map z1 ((fun (a : Int × Int) => [.int .i64 a.1, .int .i64 a.2]) a) = List.map z1 ((fun (a : Int × Int) => [.int .i64 a.1, .int .i64 a.2]) b) → a = b := by
  rintro ⟨a0, a1⟩ ⟨b0, b1⟩ h
  simp only [List.map_cons, List.map_nil, List.cons.injEq, and_true] at h
  obtain ⟨h0, h1⟩ := h
  exact (pair_eq (DV.int.inj h0).2 (DV.int.inj h1).2)
set_option maxHeartbeats 1000000 in
theorem w32 {C : FuncId → Con} (hC : ConOk Try.prog C) : ValOk Try.prog 32 sp32 := by
  refine valT_of hC c32 _ _ _ inj32 ?_
  rintro ⟨p_a, p_b⟩
  show Imq (g_num_Add p_a p_b) (fun _ => True) fun r => WP Try.prog C (fun _ => False) cd32 (retQ fun s => outV s rs32 = some (.tup [.int .i64 r.1, .int .i64 r.2])) ⟨⟨21, [(0, (.val (.int .i64 p_a))), (1, (.val (.int .i64 p_b)))]⟩, mkH []⟩
  unfold g_num_Add
  refine G_seq ?_
  refine G_region ?_
  refine G_op [0] (v := (.val (.int .i64 0))) (E_p (by kernel_rfl)) rfl rfl ?_
  refine G_op [0] (v := (.val (.int .i64 0))) (E_p (by kernel_rfl)) rfl rfl ?_
  refine G_nil ?_
  refine G_then ?_
  refine G_seq ?_
  refine G_region ?_
  refine G_op [0] (v := (.val (.int .i64 p_a))) (E_p (by kernel_rfl)) rfl rfl ?_
  refine G_op [0] (v := (.val (.int .i64 p_b))) (E_p (by kernel_rfl)) rfl rfl ?_
  refine G_op [0] (v := (.val (.int .i64 (IntKind.wrap .i64 (p_a + p_b))))) (E_p (by kernel_rfl)) rfl rfl ?_
  refine G_op [0] (v := (.val (.int .i64 (IntKind.wrap .i64 (p_a + p_b))))) (E_p (by kernel_rfl)) rfl rfl ?_
  refine G_nil ?_
  refine G_then ?_
  refine G_seq ?_
  refine G_seq ?_
  refine G_region ?_
  refine G_op [0] (v := (.val (.int .i64 (IntKind.wrap .i64 (p_a + p_b))))) (E_p (by kernel_rfl)) rfl rfl ?_
  refine G_op [0] (v := (.val (.int .i64 p_a))) (E_p (by kernel_rfl)) rfl rfl ?_
  refine G_op [0] (v := (.val (.bool (decide ((IntKind.wrap .i64 (p_a + p_b)) > p_a))))) (E_p (by kernel_rfl)) rfl rfl ?_
  refine G_op [0] (v := (.val (.int .i64 p_b))) (E_p (by kernel_rfl)) rfl rfl ?_
  refine G_op [0] (v := (.val (.bool (decide (p_b > 0))))) (E_p (by kernel_rfl)) rfl rfl ?_
  refine G_op [0] (v := (.val (.bool ((decide ((IntKind.wrap .i64 (p_a + p_b)) > p_a)) != (decide (p_b > 0)))))) (E_p (by kernel_rfl)) rfl rfl ?_
  refine G_op [0] (v := (.val (.bool ((decide ((IntKind.wrap .i64 (p_a + p_b)) > p_a)) != (decide (p_b > 0)))))) (E_p (by kernel_rfl)) rfl rfl ?_
  refine G_pure (l := []) (st := ⟨⟨21, [(19, (.val (.bool (((decide ((IntKind.wrap .i64 (p_a + p_b)) > p_a)) != (decide (p_b > 0))) && (p_b != 0))))), (6, (.val (.int .i64 (IntKind.wrap .i64 (p_a + p_b))))), (5, (.val (.int .i64 0))), (4, (.val (.int .i64 0)))]⟩, mkH []⟩) ?_ (fun r3 => ?_)
  · refine G_nil ?_
    refine G_then ?_
    refine G_cond (t := (((decide ((IntKind.wrap .i64 (p_a + p_b)) > p_a)) != (decide (p_b > 0))) && (p_b != 0))) (by kernel_rfl) (fun _ => ?_) (fun _ => ?_)
    · refine G_seq ?_
      refine G_region ?_
      refine G_op [0] (v := (.val (.int .i64 0))) (E_p (by kernel_rfl)) rfl rfl ?_
      refine G_op [0] (v := (.val (.int .i64 3))) (E_p (by kernel_rfl)) rfl rfl ?_
      refine G_nil ?_
      refine G_then ?_
      refine G_ret ?_
      refine G_thenR ?_
      refine G_retR ?_
      refine q_some fun hA => ?_
      show outV _ _ = some _
      kernel_rfl
    · refine G_skip ?_
      refine G_then ?_
      refine G_seq ?_
      refine G_region ?_
      refine G_op [0] (v := (.val (.int .i64 (IntKind.wrap .i64 (p_a + p_b))))) (E_p (by kernel_rfl)) rfl rfl ?_
      refine G_op [0] (v := (.val (.int .i64 (IntKind.wrap .i64 (p_a + p_b))))) (E_p (by kernel_rfl)) rfl rfl ?_
      refine G_op [0] (v := (.val (.int .i64 0))) (E_p (by kernel_rfl)) rfl rfl ?_
      refine G_nil ?_
      refine G_then ?_
      refine G_ret ?_
      refine G_retR ?_
      refine q_some fun hA => ?_
      show outV _ _ = some _
      kernel_rfl
  · refine q_two ((decide ((IntKind.wrap .i64 (p_a + p_b)) > p_a)) != (decide (p_b > 0))) (fun h1 => ?_) (fun h1 => ?_)
    · refine G_subR (Sub_lit (t := 16) (v := true) rfl h1) ?_
      refine G_op [0] (v := (.val (.int .i64 p_b))) (E_p (by kernel_rfl)) rfl rfl ?_
      refine G_op [0] (v := (.val (.bool (p_b != 0)))) (E_p (by kernel_rfl)) rfl rfl ?_
      refine G_op [0] (v := (.val (.bool (p_b != 0)))) (E_p (by kernel_rfl)) rfl rfl ?_
      exact q_some fun h => RP_sub (by exact Sub_env ⟨(Wk_and1 h1), .refl _, .refl _, .refl _, trivial⟩) h
    · refine G_subR (Sub_lit (t := 16) (v := false) rfl h1) ?_
      refine G_off rfl rfl ?_
      refine G_off rfl rfl ?_
      refine G_op [0] (v := (.val (.bool false))) (E_p (by kernel_rfl)) rfl rfl ?_
      exact q_some fun h => RP_sub (by exact Sub_env ⟨(Wk_and0 h1), .refl _, .refl _, .refl _, trivial⟩) h
theorem s32 (x0 : Int) (x1 : Int) (ds : List DV) (hd : List.map z1 ds = List.map z1 [.int .i64 x0, .int .i64 x1]) : sp32 ds = (g_num_Add x0 x1).map fun r => .tup [.int .i64 r.1, .int .i64 r.2] :=
  specT_at (ea := fun (a : Int × Int) => [.int .i64 a.1, .int .i64 a.2]) (eb := fun (r : (Int × Int)) => .tup [.int .i64 r.1, .int .i64 r.2]) (g := fun (a : Int × Int) => g_num_Add a.1 a.2) inj32 (x0, x1) hd

def k39_0 : ACode := (.region (⟨(some 16), (.p (.mv (.t 4))), none⟩ :: ⟨(some 17), (.p (.mv (.t 6))), none⟩ :: ⟨(some 18), (.r (.call 32 [(.t 16), (.t 17)])), none⟩ :: ⟨(some 15), (.p (.mv (.t 18))), none⟩ :: ⟨(some 19), (.p (.ext (.t 15) 0)), none⟩ :: ⟨(some 20), (.p (.ext (.t 15) 1)), none⟩ :: ⟨(some 7), (.p (.mv (.t 19))), none⟩ :: ⟨(some 8), (.p (.mv (.t 20))), none⟩ :: []))
def k39_1 : ACode := (.seq (.region (⟨(some 23), (.p (.mv (.t 8))), none⟩ :: ⟨(some 2), (.p (.mv (.c (.int .i64 0)))), none⟩ :: ⟨(some 3), (.p (.mv (.t 23))), none⟩ :: [])) .ret)
def k39_2 : ACode := (.cond (.t 22) k39_1 .skip)
def k39_3 : ACode := (.seq (.region (⟨(some 21), (.p (.mv (.t 8))), none⟩ :: ⟨(some 22), (.p (.bin .neq (.t 21) (.c (.int .i64 0)))), none⟩ :: [])) k39_2)
def k39_4 : ACode := (.seq k39_3 (.region (⟨(some 24), (.p (.mv (.t 7))), none⟩ :: ⟨(some 4), (.p (.mv (.t 24))), none⟩ :: [])))
def k39_5 : ACode := (.seq k39_0 k39_4)
def k39_6 : ACode := (.seq (.region (⟨(some 13), (.p (.soff 1 (.t 9) (.t 11))), none⟩ :: ⟨(some 14), (.r (.load 1 false (.t 13))), none⟩ :: ⟨(some 6), (.p (.mv (.t 14))), none⟩ :: [])) k39_5)
def k39_7 : ACode := (.block 1 k39_6)
def k39_8 : ACode := (.seq k39_7 (.region (⟨(some 25), (.p (.bin .add (.t 11) (.c (.int .i64 1)))), none⟩ :: ⟨(some 11), (.p (.mv (.t 25))), none⟩ :: [])))
def k39_9 : ACode := (.seq (.cond (.t 12) .skip (.exit 0)) k39_8)
def k39_10 : ACode := (.seq (.region (⟨(some 12), (.p (.bin .lss (.t 11) (.t 10))), none⟩ :: [])) k39_9)
def k39_11 : ACode := (.block 0 (.loop k39_10))
def k39_12 : ACode := (.seq (.region (⟨(some 9), (.p (.mv (.t 0))), none⟩ :: ⟨(some 10), (.p (.len (.t 9))), none⟩ :: ⟨(some 11), (.p (.mv (.c (.int .i64 0)))), none⟩ :: [])) k39_11)
def k39_13 : ACode := (.seq (.region (⟨(some 26), (.p (.mv (.t 4))), none⟩ :: ⟨(some 2), (.p (.mv (.t 26))), none⟩ :: ⟨(some 3), (.p (.mv (.c (.int .i64 0)))), none⟩ :: [])) .ret)
def k39_14 : ACode := (.seq k39_12 k39_13)
def k39_15 : ACode := (.seq (.region (⟨(some 4), (.p (.mv (.c (.int .i64 0)))), none⟩ :: [])) k39_14)
def cd39 : ACode := (.seq (.region (⟨(some 2), (.p (.mv (.c (.int .i64 0)))), none⟩ :: ⟨(some 3), (.p (.mv (.c (.int .i64 0)))), none⟩ :: [])) k39_15)
def rs39 : List ARes := [(.tmp 2), (.tmp 3)]
def af39 : AFn := ⟨cd39, rs39, 27⟩
theorem c39 : compF Try.prog 39 = some af39 := by kernel_rfl
noncomputable def g_num_Total_l0 (p_l : (List Int)) (z1 : Int × Int) : Option ((Int × Int) ⊕ ((Int) ⊕ ((Int × Int)))) := (bif (decide (z1.1 < (p_l.length : Int))) then (Option.bind (getO p_l z1.1) fun x4 => (Option.bind (g_num_Add z1.2 x4) fun v5 => (bif (v5.2 != 0) then (some (.inr (.inr (0, v5.2)))) else (some (.inl ((IntKind.wrap .i64 (z1.1 + 1)), v5.1)))))) else (some (.inr (.inl z1.2))))
noncomputable def g_num_Total (p_l : (List Int)) : Option (Int × Int) := (Option.bind (loopO (g_num_Total_l0 p_l) (0, 0)) (outE (fun (e2 : Int) => (some (e2, 0)))))
noncomputable def sp39 : List DV → Option DV := specT (fun (a : (List Int)) => [.sl 1 (List.map e_i64 a)]) (fun (r : (Int × Int)) => .tup [.int .i64 r.1, .int .i64 r.2]) (fun (a : (List Int)) => g_num_Total a)
theorem inj39 : ∀ (a b : (List Int)), List.map z1 ((fun (a : (List Int)) => [.sl 1 (List.map e_i64 a)]) a) = List.map z1 ((fun (a : (List Int)) => [.sl 1 (List.map e_i64 a)]) b) → a = b := by
  intro a0 b0 h
  simp only [List.map_cons, List.map_nil, List.cons.injEq, and_true] at h
  exact (map_inj e_i64_inj (z1_sl h))
set_option maxHeartbeats 1000000 in
theorem w39 {C : FuncId → Con} (hC : ConOk Try.prog C) {q32 : List DV → Option DV} (hc32 : C 32 = .val q32) (hs32 : ∀ (x0 : Int) (x1 : Int) (ds : List DV), List.map z1 ds = List.map z1 [.int .i64 x0, .int .i64 x1] → q32 ds = (g_num_Add x0 x1).map fun r => .tup [.int .i64 r.1, .int .i64 r.2]) : ValOk Try.prog 39 sp39 := by
  refine valT_of hC c39 _ _ _ inj39 ?_
  intro p_l
  show Imq (g_num_Total p_l) (fun _ => True) fun r => WP Try.prog C (fun _ => False) cd39 (retQ fun s => outV s rs39 = some (.tup [.int .i64 r.1, .int .i64 r.2])) ⟨⟨27, [(0, (.val (.sl 1 (List.map e_i64 p_l))))]⟩, mkH []⟩
  unfold g_num_Total
  refine G_seq ?_
  refine G_region ?_
  refine G_op [0] (v := (.val (.int .i64 0))) (E_p (by kernel_rfl)) rfl rfl ?_
  refine G_op [0] (v := (.val (.int .i64 0))) (E_p (by kernel_rfl)) rfl rfl ?_
  refine G_nil ?_
  refine G_then ?_
  refine G_seq ?_
  refine G_region ?_
  refine G_op [0] (v := (.val (.int .i64 0))) (E_p (by kernel_rfl)) rfl rfl ?_
  refine G_nil ?_
  refine G_then ?_
  refine G_seq ?_
  refine G_seq ?_
  refine G_region ?_
  refine G_op [0] (v := (.val (.sl 1 (List.map e_i64 p_l)))) (E_p (by kernel_rfl)) rfl rfl ?_
  refine G_op [0] (v := (.val (.int .i64 (p_l.length : Int)))) (E_len (s := 1) (e := e_i64) (xs := p_l) (by kernel_rfl)) rfl rfl ?_
  refine G_op [0] (v := (.val (.int .i64 0))) (E_p (by kernel_rfl)) rfl rfl ?_
  refine G_nil ?_
  refine G_then ?_
  refine G_loopR (enc := fun z1 => ⟨⟨27, [(11, (.val (.int .i64 z1.1))), (10, (.val (.int .i64 (p_l.length : Int)))), (9, (.val (.sl 1 (List.map e_i64 p_l)))), (4, (.val (.int .i64 z1.2))), (3, (.val (.int .i64 0))), (2, (.val (.int .i64 0)))]⟩, mkH []⟩) (out := fun e2 => ⟨⟨27, [(4, (.val (.int .i64 e2))), (3, (.val (.int .i64 0))), (2, (.val (.int .i64 0)))]⟩, mkH []⟩) (by exact Sub_env ⟨.refl _, .refl _, .refl _, .refl _, .refl _, .refl _, trivial⟩) (fun e2 => ?_) (fun r3 hr3 R z1 => ?_)
  · refine G_then ?_
    refine G_seq ?_
    refine G_region ?_
    refine G_op [0] (v := (.val (.int .i64 e2))) (E_p (by kernel_rfl)) rfl rfl ?_
    refine G_op [0] (v := (.val (.int .i64 e2))) (E_p (by kernel_rfl)) rfl rfl ?_
    refine G_op [0] (v := (.val (.int .i64 0))) (E_p (by kernel_rfl)) rfl rfl ?_
    refine G_nil ?_
    refine G_then ?_
    refine G_ret ?_
    refine G_retR ?_
    refine q_some fun hA => ?_
    show outV _ _ = some _
    kernel_rfl
  · unfold g_num_Total_l0
    refine G_seq ?_
    refine G_region ?_
    refine G_op [0] (v := (.val (.bool (decide (z1.1 < (p_l.length : Int)))))) (E_p (by kernel_rfl)) rfl rfl ?_
    refine G_nil ?_
    refine G_then ?_
    refine G_seq ?_
    refine G_cond (t := (decide (z1.1 < (p_l.length : Int)))) (by kernel_rfl) (fun _ => ?_) (fun _ => ?_)
    · refine G_skip ?_
      refine G_then ?_
      refine G_seq ?_
      refine G_block ?_
      refine G_seq ?_
      refine G_region ?_
      refine q_bind fun x4 hx4 => ?_
      refine G_op [0] (v := (.val (.pt [(.int .i64 x4)]))) (E_soff (s := 1) (e := e_i64) (xs := p_l) (n := z1.1) (a := x4) (by kernel_rfl) (by kernel_rfl) hx4) rfl rfl ?_
      refine G_op [0] (v := (.val (.int .i64 x4))) (E_load (by kernel_rfl)) rfl rfl ?_
      refine G_op [0] (v := (.val (.int .i64 x4))) (E_p (by kernel_rfl)) rfl rfl ?_
      refine G_nil ?_
      refine G_then ?_
      refine G_seq ?_
      refine G_region ?_
      refine G_op [0] (v := (.val (.int .i64 z1.2))) (E_p (by kernel_rfl)) rfl rfl ?_
      refine G_op [0] (v := (.val (.int .i64 x4))) (E_p (by kernel_rfl)) rfl rfl ?_
      refine q_bind fun v5 hv5 => ?_
      refine G_op [0] (v := (.val (.tup [(.int .i64 v5.1), (.int .i64 v5.2)]))) (E_call (ds := [.int .i64 z1.2, .int .i64 x4]) (r := .tup [.int .i64 v5.1, .int .i64 v5.2]) hc32 (by kernel_rfl) ((hs32 z1.2 x4 _ (by kernel_rfl)).trans (congrArg _ hv5))) rfl rfl ?_
      refine G_op [0] (v := (.val (.tup [(.int .i64 v5.1), (.int .i64 v5.2)]))) (E_p (by kernel_rfl)) rfl rfl ?_
      refine G_op [0] (v := (.val (.int .i64 v5.1))) (E_p (by kernel_rfl)) rfl rfl ?_
      refine G_op [0] (v := (.val (.int .i64 v5.2))) (E_p (by kernel_rfl)) rfl rfl ?_
      refine G_op [0] (v := (.val (.int .i64 v5.1))) (E_p (by kernel_rfl)) rfl rfl ?_
      refine G_op [0] (v := (.val (.int .i64 v5.2))) (E_p (by kernel_rfl)) rfl rfl ?_
      refine G_nil ?_
      refine G_then ?_
      refine G_subW (s0 := ⟨⟨27, [(8, (.val (.int .i64 v5.2))), (7, (.val (.int .i64 v5.1))), (11, (.val (.int .i64 z1.1))), (10, (.val (.int .i64 (p_l.length : Int)))), (9, (.val (.sl 1 (List.map e_i64 p_l)))), (4, (.val (.int .i64 z1.2))), (3, (.val (.int .i64 0))), (2, (.val (.int .i64 0)))]⟩, mkH []⟩) (by exact Sub_env ⟨.refl _, .refl _, .refl _, .refl _, .refl _, .refl _, .refl _, .refl _, trivial⟩) ?_
      refine G_seq ?_
      refine G_seq ?_
      refine G_region ?_
      refine G_op [0] (v := (.val (.int .i64 v5.2))) (E_p (by kernel_rfl)) rfl rfl ?_
      refine G_op [0] (v := (.val (.bool (v5.2 != 0)))) (E_p (by kernel_rfl)) rfl rfl ?_
      refine G_nil ?_
      refine G_then ?_
      refine G_cond (t := (v5.2 != 0)) (by kernel_rfl) (fun _ => ?_) (fun _ => ?_)
      · refine G_seq ?_
        refine G_region ?_
        refine G_op [0] (v := (.val (.int .i64 v5.2))) (E_p (by kernel_rfl)) rfl rfl ?_
        refine G_op [0] (v := (.val (.int .i64 0))) (E_p (by kernel_rfl)) rfl rfl ?_
        refine G_op [0] (v := (.val (.int .i64 v5.2))) (E_p (by kernel_rfl)) rfl rfl ?_
        refine G_nil ?_
        refine G_then ?_
        refine G_ret ?_
        refine G_thenR ?_
        refine G_inBR ?_
        refine G_thenR ?_
        refine G_thenR ?_
        refine G_inBR ?_
        refine G_thenR ?_
        refine G_retR ?_
        refine q_some fun hA => ?_
        cases hA
        replace hA := hr3
        show outV _ _ = some _
        kernel_rfl
      · refine G_skip ?_
        refine G_then ?_
        refine G_region ?_
        refine G_op [0] (v := (.val (.int .i64 v5.1))) (E_p (by kernel_rfl)) rfl rfl ?_
        refine G_op [0] (v := (.val (.int .i64 v5.1))) (E_p (by kernel_rfl)) rfl rfl ?_
        refine G_nil ?_
        refine G_inB ?_
        refine G_then ?_
        refine G_region ?_
        refine G_op [0] (v := (.val (.int .i64 (IntKind.wrap .i64 (z1.1 + 1))))) (E_p (by kernel_rfl)) rfl rfl ?_
        refine G_op [0] (v := (.val (.int .i64 (IntKind.wrap .i64 (z1.1 + 1))))) (E_p (by kernel_rfl)) rfl rfl ?_
        refine G_nil ?_
        refine G_then ?_
        exact q_some fun h => h _ (by exact Sub_env ⟨.refl _, .refl _, .refl _, .refl _, .refl _, .refl _, trivial⟩)
    · refine G_exit ?_
      refine G_thenX ?_
      refine G_thenX ?_
      refine G_inBX ?_
      exact q_some fun h => (QN_then : QN _ _) _ _ (by exact Sub_env ⟨.refl _, .refl _, .refl _, trivial⟩) h
theorem s39 (x0 : (List Int)) (ds : List DV) (hd : List.map z1 ds = List.map z1 [.sl 1 (List.map e_i64 x0)]) : sp39 ds = (g_num_Total x0).map fun r => .tup [.int .i64 r.1, .int .i64 r.2] :=
  specT_at (ea := fun (a : (List Int)) => [.sl 1 (List.map e_i64 a)]) (eb := fun (r : (Int × Int)) => .tup [.int .i64 r.1, .int .i64 r.2]) (g := fun (a : (List Int)) => g_num_Total a) inj39 x0 hd

def k20_0 : ACode := (.region (⟨(some 11), (.p (.soff 4 (.t 7) (.t 9))), none⟩ :: ⟨(some 12), (.r (.load 4 true (.t 11))), none⟩ :: ⟨(some 6), (.a (.alloc [(.int .i64 0), (.int .i64 0), (.int .i64 0), (.int .i64 0)])), none⟩ :: ⟨none, (.w (.store 4 (.t 6) (.t 12))), none⟩ :: []))
def k20_1 : ACode := (.region (⟨(some 13), (.p (.mv (.t 4))), none⟩ :: ⟨(some 14), (.p (.foff 3 (.t 6))), none⟩ :: ⟨(some 15), (.r (.load 1 false (.t 14))), none⟩ :: ⟨(some 16), (.a (.bsl 1 1 [(.int .i64 0)] [(0, (.t 15))])), none⟩ :: ⟨(some 17), (.w (.app 1 8 false (.t 13) (.t 16))), none⟩ :: ⟨(some 4), (.p (.mv (.t 17))), none⟩ :: []))
def k20_2 : ACode := (.seq k20_0 k20_1)
def k20_3 : ACode := (.block 1 k20_2)
def k20_4 : ACode := (.seq k20_3 (.region (⟨(some 18), (.p (.bin .add (.t 9) (.c (.int .i64 1)))), none⟩ :: ⟨(some 9), (.p (.mv (.t 18))), none⟩ :: [])))
def k20_5 : ACode := (.seq (.cond (.t 10) .skip (.exit 0)) k20_4)
def k20_6 : ACode := (.seq (.region (⟨(some 10), (.p (.bin .lss (.t 9) (.t 8))), none⟩ :: [])) k20_5)
def k20_7 : ACode := (.block 0 (.loop k20_6))
def k20_8 : ACode := (.seq (.region (⟨(some 7), (.p (.mv (.t 0))), none⟩ :: ⟨(some 8), (.p (.len (.t 7))), none⟩ :: ⟨(some 9), (.p (.mv (.c (.int .i64 0)))), none⟩ :: [])) k20_7)
def k20_9 : ACode := (.region (⟨(some 19), (.p (.mv (.t 4))), none⟩ :: ⟨(some 20), (.r (.call 39 [(.t 19)])), none⟩ :: ⟨(some 21), (.p (.ext (.t 20) 0)), none⟩ :: ⟨(some 22), (.p (.ext (.t 20) 1)), none⟩ :: ⟨(some 2), (.p (.mv (.t 21))), none⟩ :: ⟨(some 3), (.p (.mv (.t 22))), none⟩ :: []))
def k20_10 : ACode := (.seq k20_9 .ret)
def k20_11 : ACode := (.seq k20_8 k20_10)
def k20_12 : ACode := (.seq (.region (⟨(some 4), (.p (.mv (.c (.nils 1)))), none⟩ :: [])) k20_11)
def cd20 : ACode := (.seq (.region (⟨(some 2), (.p (.mv (.c (.int .i64 0)))), none⟩ :: ⟨(some 3), (.p (.mv (.c (.int .i64 0)))), none⟩ :: [])) k20_12)
def rs20 : List ARes := [(.tmp 2), (.tmp 3)]
def af20 : AFn := ⟨cd20, rs20, 23⟩
theorem c20 : compF Try.prog 20 = some af20 := by kernel_rfl
noncomputable def g_limit_Whole_l0 (p_l : (List CellT)) (z1 : Int × (List Int)) : Option ((Int × (List Int)) ⊕ ((List Int))) := (bif (decide (z1.1 < (p_l.length : Int))) then (Option.bind (getO p_l z1.1) fun x4 => (if (room 8 ((List.length z1.2) + 1)) then (some (.inl ((IntKind.wrap .i64 (z1.1 + 1)), (z1.2 ++ [x4.Open])))) else none)) else (some (.inr z1.2)))
noncomputable def g_limit_Whole (p_l : (List CellT)) : Option (Int × Int) := (Option.bind (loopO (g_limit_Whole_l0 p_l) (0, [])) (fun (e2 : (List Int)) => (Option.bind (g_num_Total e2) fun v6 => (some (v6.1, v6.2)))))
noncomputable def sp20 : List DV → Option DV := specT (fun (a : (List CellT)) => [.sl 4 (List.map e_CellT a)]) (fun (r : (Int × Int)) => .tup [.int .i64 r.1, .int .i64 r.2]) (fun (a : (List CellT)) => g_limit_Whole a)
theorem inj20 : ∀ (a b : (List CellT)), List.map z1 ((fun (a : (List CellT)) => [.sl 4 (List.map e_CellT a)]) a) = List.map z1 ((fun (a : (List CellT)) => [.sl 4 (List.map e_CellT a)]) b) → a = b := by
  intro a0 b0 h
  simp only [List.map_cons, List.map_nil, List.cons.injEq, and_true] at h
  exact (map_inj e_CellT_inj (z1_sl h))
set_option maxHeartbeats 1000000 in
theorem w20 {C : FuncId → Con} (hC : ConOk Try.prog C) {q39 : List DV → Option DV} (hc39 : C 39 = .val q39) (hs39 : ∀ (x0 : (List Int)) (ds : List DV), List.map z1 ds = List.map z1 [.sl 1 (List.map e_i64 x0)] → q39 ds = (g_num_Total x0).map fun r => .tup [.int .i64 r.1, .int .i64 r.2]) : ValOk Try.prog 20 sp20 := by
  refine valT_of hC c20 _ _ _ inj20 ?_
  intro p_l
  show Imq (g_limit_Whole p_l) (fun _ => True) fun r => WP Try.prog C (fun _ => False) cd20 (retQ fun s => outV s rs20 = some (.tup [.int .i64 r.1, .int .i64 r.2])) ⟨⟨23, [(0, (.val (.sl 4 (List.map e_CellT p_l))))]⟩, mkH []⟩
  unfold g_limit_Whole
  refine G_seq ?_
  refine G_region ?_
  refine G_op [0] (v := (.val (.int .i64 0))) (E_p (by kernel_rfl)) rfl rfl ?_
  refine G_op [0] (v := (.val (.int .i64 0))) (E_p (by kernel_rfl)) rfl rfl ?_
  refine G_nil ?_
  refine G_then ?_
  refine G_seq ?_
  refine G_region ?_
  refine G_op [0] (v := (.val (.nils 1))) (E_p (by kernel_rfl)) rfl rfl ?_
  refine G_nil ?_
  refine G_then ?_
  refine G_seq ?_
  refine G_seq ?_
  refine G_region ?_
  refine G_op [0] (v := (.val (.sl 4 (List.map e_CellT p_l)))) (E_p (by kernel_rfl)) rfl rfl ?_
  refine G_op [0] (v := (.val (.int .i64 (p_l.length : Int)))) (E_len (s := 4) (e := e_CellT) (xs := p_l) (by kernel_rfl)) rfl rfl ?_
  refine G_op [0] (v := (.val (.int .i64 0))) (E_p (by kernel_rfl)) rfl rfl ?_
  refine G_nil ?_
  refine G_then ?_
  refine G_loop (enc := fun z1 => ⟨⟨23, [(4, (.row [1004] 1 0 (List.length z1.2))), (9, (.val (.int .i64 z1.1))), (8, (.val (.int .i64 (p_l.length : Int)))), (7, (.val (.sl 4 (List.map e_CellT p_l)))), (3, (.val (.int .i64 0))), (2, (.val (.int .i64 0)))]⟩, mkH [([1004], (.row 1 (List.map e_i64 z1.2)))]⟩) (out := fun e2 => ⟨⟨23, [(4, (.row [1004] 1 0 (List.length e2))), (3, (.val (.int .i64 0))), (2, (.val (.int .i64 0)))]⟩, mkH [([1004], (.row 1 (List.map e_i64 e2)))]⟩) (Sub.trans (Sub_nil (t := 4) (k := 1) [1004] (by kernel_rfl) (by kernel_rfl)) (by exact Sub_keep ⟨.refl _, .refl _, .refl _, .refl _, .refl _, .refl _, trivial⟩ ⟨⟨_, (by kernel_rfl), .refl _⟩, trivial⟩ (by kernel_rfl) (by kernel_rfl))) (fun e2 => ?_) (fun r3 hr3 R z1 => ?_)
  · refine G_then ?_
    refine G_seq ?_
    refine G_region ?_
    refine G_op [0] (v := (.row [1004] 1 0 (List.length e2))) (E_p (by kernel_rfl)) rfl rfl ?_
    refine q_bind fun v6 hv6 => ?_
    refine G_op [0] (v := (.val (.tup [(.int .i64 v6.1), (.int .i64 v6.2)]))) (E_callF (ds := [.sl 1 (List.map e_i64 e2)]) (ids := [[1004]]) (r := .tup [.int .i64 v6.1, .int .i64 v6.2]) hc39 (A_cons (A_row (xs := e2) (e := e_i64) (by kernel_rfl) (by first | rfl | simp)) A_nil) ((hs39 e2 _ (by kernel_rfl)).trans (congrArg _ hv6)) (by kernel_rfl)) rfl rfl ?_
    refine G_op [0] (v := (.val (.int .i64 v6.1))) (E_p (by kernel_rfl)) rfl rfl ?_
    refine G_op [0] (v := (.val (.int .i64 v6.2))) (E_p (by kernel_rfl)) rfl rfl ?_
    refine G_op [0] (v := (.val (.int .i64 v6.1))) (E_p (by kernel_rfl)) rfl rfl ?_
    refine G_op [0] (v := (.val (.int .i64 v6.2))) (E_p (by kernel_rfl)) rfl rfl ?_
    refine G_nil ?_
    refine G_then ?_
    refine G_ret ?_
    refine G_retR ?_
    refine q_some fun hA => ?_
    show outV _ _ = some _
    kernel_rfl
  · unfold g_limit_Whole_l0
    refine G_seq ?_
    refine G_region ?_
    refine G_op [0] (v := (.val (.bool (decide (z1.1 < (p_l.length : Int)))))) (E_p (by kernel_rfl)) rfl rfl ?_
    refine G_nil ?_
    refine G_then ?_
    refine G_seq ?_
    refine G_cond (t := (decide (z1.1 < (p_l.length : Int)))) (by kernel_rfl) (fun _ => ?_) (fun _ => ?_)
    · refine G_skip ?_
      refine G_then ?_
      refine G_seq ?_
      refine G_block ?_
      refine G_seq ?_
      refine G_region ?_
      refine q_bind fun x4 hx4 => ?_
      refine G_op [0] (v := (.val (.pt [(.int .i64 x4.Pos), (.int .i64 x4.Buy), (.int .i64 x4.Sell), (.int .i64 x4.Open)]))) (E_soff (s := 4) (e := e_CellT) (xs := p_l) (n := z1.1) (a := x4) (by kernel_rfl) (by kernel_rfl) hx4) rfl rfl ?_
      refine G_op [0] (v := (.val (.agg [(.int .i64 x4.Pos), (.int .i64 x4.Buy), (.int .i64 x4.Sell), (.int .i64 x4.Open)]))) (E_load (by kernel_rfl)) rfl rfl ?_
      refine G_op [1014] (v := (.box [1014] 0)) (E_a (u := (.box [1014] 0)) (b := (.box [(.val (.int .i64 0)), (.val (.int .i64 0)), (.val (.int .i64 0)), (.val (.int .i64 0))])) (h' := [([1004], (.row 1 (List.map e_i64 z1.2))), ([1014], (.box [(.val (.int .i64 0)), (.val (.int .i64 0)), (.val (.int .i64 0)), (.val (.int .i64 0))]))]) (by kernel_rfl) (by kernel_rfl) (by kernel_rfl)) rfl rfl ?_
      refine G_op0 [0] (v := (.val (.tup []))) (E_store (b := [1014]) (o := 0) (cs := [(.val (.int .i64 x4.Pos)), (.val (.int .i64 x4.Buy)), (.val (.int .i64 x4.Sell)), (.val (.int .i64 x4.Open))]) (cells := [(.val (.int .i64 0)), (.val (.int .i64 0)), (.val (.int .i64 0)), (.val (.int .i64 0))]) (cells' := [(.val (.int .i64 x4.Pos)), (.val (.int .i64 x4.Buy)), (.val (.int .i64 x4.Sell)), (.val (.int .i64 x4.Open))]) (h' := [([1004], (.row 1 (List.map e_i64 z1.2))), ([1014], (.box [(.val (.int .i64 x4.Pos)), (.val (.int .i64 x4.Buy)), (.val (.int .i64 x4.Sell)), (.val (.int .i64 x4.Open))]))]) (by kernel_rfl) (by kernel_rfl) (by kernel_rfl) rfl (by kernel_rfl) (by kernel_rfl) (by kernel_rfl) (by kernel_rfl)) rfl ?_
      refine G_nil ?_
      refine G_then ?_
      refine G_region ?_
      refine G_op [0] (v := (.row [1004] 1 0 (List.length z1.2))) (E_p (by kernel_rfl)) rfl rfl ?_
      refine G_op [0] (v := (.box [1014] 3)) (E_p (by kernel_rfl)) rfl rfl ?_
      refine G_op [0] (v := (.val (.int .i64 x4.Open))) (E_load (by kernel_rfl)) rfl rfl ?_
      refine G_op [1015] (v := (.row [1015] 1 0 1)) (E_a (u := (.row [1015] 1 0 1)) (b := (.row 1 (List.map e_i64 [x4.Open]))) (h' := [([1004], (.row 1 (List.map e_i64 z1.2))), ([1014], (.box [(.val (.int .i64 x4.Pos)), (.val (.int .i64 x4.Buy)), (.val (.int .i64 x4.Sell)), (.val (.int .i64 x4.Open))])), ([1015], (.row 1 (List.map e_i64 [x4.Open])))]) (by kernel_rfl) (by kernel_rfl) (by kernel_rfl)) rfl rfl ?_
      refine q_guard fun h5 => ?_
      refine G_op [1016] (v := (.row [1016] 1 0 (List.length (z1.2 ++ [x4.Open])))) (E_appR (b := [1004]) (xs := z1.2) (ys := [x4.Open]) (zs := (z1.2 ++ [x4.Open])) (e := e_i64) (h' := [([1004], .dead), ([1014], (.box [(.val (.int .i64 x4.Pos)), (.val (.int .i64 x4.Buy)), (.val (.int .i64 x4.Sell)), (.val (.int .i64 x4.Open))])), ([1015], (.row 1 (List.map e_i64 [x4.Open]))), ([1016], (.row 1 (List.map e_i64 (z1.2 ++ [x4.Open]))))]) (by kernel_rfl) (by kernel_rfl) (by first | rfl | simp) (L_row (xs := [x4.Open]) (e := e_i64) (by kernel_rfl) (by first | rfl | simp)) (by kernel_rfl) h5 (by first | rfl | simp) (by kernel_rfl)) rfl rfl ?_
      refine G_op [0] (v := (.row [1016] 1 0 (List.length (z1.2 ++ [x4.Open])))) (E_p (by kernel_rfl)) rfl rfl ?_
      refine G_nil ?_
      refine G_inB ?_
      refine G_then ?_
      refine G_subW (s0 := ⟨⟨23, [(4, (.row [1016] 1 0 (List.length (z1.2 ++ [x4.Open])))), (9, (.val (.int .i64 z1.1))), (8, (.val (.int .i64 (p_l.length : Int)))), (7, (.val (.sl 4 (List.map e_CellT p_l)))), (3, (.val (.int .i64 0))), (2, (.val (.int .i64 0)))]⟩, mkH [([1016], (.row 1 (List.map e_i64 (z1.2 ++ [x4.Open]))))]⟩) (by exact Sub_keep ⟨.refl _, .refl _, .refl _, .refl _, .refl _, .refl _, trivial⟩ ⟨⟨_, (by kernel_rfl), .refl _⟩, trivial⟩ (by kernel_rfl) (by kernel_rfl)) ?_
      refine G_region ?_
      refine G_op [0] (v := (.val (.int .i64 (IntKind.wrap .i64 (z1.1 + 1))))) (E_p (by kernel_rfl)) rfl rfl ?_
      refine G_op [0] (v := (.val (.int .i64 (IntKind.wrap .i64 (z1.1 + 1))))) (E_p (by kernel_rfl)) rfl rfl ?_
      refine G_nil ?_
      refine G_then ?_
      exact q_some fun h => h _ (Sub.trans (Sub_ren [1004] [1016]) (by exact Sub_keep ⟨.refl _, .refl _, .refl _, .refl _, .refl _, .refl _, trivial⟩ ⟨⟨_, (by kernel_rfl), .refl _⟩, trivial⟩ (by kernel_rfl) (by kernel_rfl)))
    · refine G_exit ?_
      refine G_thenX ?_
      refine G_thenX ?_
      refine G_inBX ?_
      exact q_some fun h => (QN_then : QN _ _) _ _ (by exact Sub_env ⟨.refl _, .refl _, .refl _, trivial⟩) h
theorem s20 (x0 : (List CellT)) (ds : List DV) (hd : List.map z1 ds = List.map z1 [.sl 4 (List.map e_CellT x0)]) : sp20 ds = (g_limit_Whole x0).map fun r => .tup [.int .i64 r.1, .int .i64 r.2] :=
  specT_at (ea := fun (a : (List CellT)) => [.sl 4 (List.map e_CellT a)]) (eb := fun (r : (Int × Int)) => .tup [.int .i64 r.1, .int .i64 r.2]) (g := fun (a : (List CellT)) => g_limit_Whole a) inj20 x0 hd

def k22_0 : ACode := (.region (⟨(some 3), (.p (.foff 0 (.t 1))), none⟩ :: ⟨(some 4), (.r (.load 1 false (.t 3))), none⟩ :: ⟨(some 5), (.p (.foff 1 (.t 1))), none⟩ :: ⟨(some 6), (.r (.load 1 false (.t 5))), none⟩ :: ⟨(some 7), (.p (.foff 2 (.t 1))), none⟩ :: ⟨(some 8), (.r (.load 1 false (.t 7))), none⟩ :: ⟨(some 9), (.p (.mnx false (.t 4) [(.t 6), (.t 8)])), none⟩ :: ⟨(some 10), (.p (.bin .geq (.t 9) (.c (.int .i64 0)))), none⟩ :: ⟨(some 2), (.p (.mv (.t 10))), none⟩ :: []))
def k22_1 : ACode := (.seq k22_0 .ret)
def cd22 : ACode := (.seq (.region (⟨(some 1), (.a (.bx (.t 0))), none⟩ :: ⟨(some 2), (.p (.mv (.c (.bool false)))), none⟩ :: [])) k22_1)
def rs22 : List ARes := [(.tmp 2)]
def af22 : AFn := ⟨cd22, rs22, 11⟩
theorem c22 : compF Try.prog 22 = some af22 := by kernel_rfl
noncomputable def g_limit_Right (p_l : ExpoT) : Option Bool := (some (decide ((if p_l.Open < (if p_l.Short < p_l.Long then p_l.Short else p_l.Long) then p_l.Open else (if p_l.Short < p_l.Long then p_l.Short else p_l.Long)) ≥ 0)))
noncomputable def sp22 : List DV → Option DV := specT (fun (a : ExpoT) => [.agg (e_ExpoT a)]) (fun (r : Bool) => .bool r) (fun (a : ExpoT) => g_limit_Right a)
theorem inj22 : ∀ (a b : ExpoT), List.map z1 ((fun (a : ExpoT) => [.agg (e_ExpoT a)]) a) = List.map z1 ((fun (a : ExpoT) => [.agg (e_ExpoT a)]) b) → a = b := by
  intro a0 b0 h
  simp only [List.map_cons, List.map_nil, List.cons.injEq, and_true] at h
  exact (e_ExpoT_inj (DV.agg.inj h))
set_option maxHeartbeats 1000000 in
theorem w22 {C : FuncId → Con} (hC : ConOk Try.prog C) : ValOk Try.prog 22 sp22 := by
  refine valT_of hC c22 _ _ _ inj22 ?_
  intro p_l
  show Imq (g_limit_Right p_l) (fun _ => True) fun r => WP Try.prog C (fun _ => False) cd22 (retQ fun s => outV s rs22 = some (.bool r)) ⟨⟨11, [(0, (.val (.agg [(.int .i64 p_l.Long), (.int .i64 p_l.Short), (.int .i64 p_l.Open)])))]⟩, mkH []⟩
  unfold g_limit_Right
  refine G_seq ?_
  refine G_region ?_
  refine G_op [1001] (v := (.box [1001] 0)) (E_a (u := (.box [1001] 0)) (b := (.box [(.val (.int .i64 p_l.Long)), (.val (.int .i64 p_l.Short)), (.val (.int .i64 p_l.Open))])) (h' := [([1001], (.box [(.val (.int .i64 p_l.Long)), (.val (.int .i64 p_l.Short)), (.val (.int .i64 p_l.Open))]))]) (by kernel_rfl) (by kernel_rfl) (by kernel_rfl)) rfl rfl ?_
  refine G_op [0] (v := (.val (.bool false))) (E_p (by kernel_rfl)) rfl rfl ?_
  refine G_nil ?_
  refine G_then ?_
  refine G_seq ?_
  refine G_region ?_
  refine G_op [0] (v := (.box [1001] 0)) (E_p (by kernel_rfl)) rfl rfl ?_
  refine G_op [0] (v := (.val (.int .i64 p_l.Long))) (E_load (by kernel_rfl)) rfl rfl ?_
  refine G_op [0] (v := (.box [1001] 1)) (E_p (by kernel_rfl)) rfl rfl ?_
  refine G_op [0] (v := (.val (.int .i64 p_l.Short))) (E_load (by kernel_rfl)) rfl rfl ?_
  refine G_op [0] (v := (.box [1001] 2)) (E_p (by kernel_rfl)) rfl rfl ?_
  refine G_op [0] (v := (.val (.int .i64 p_l.Open))) (E_load (by kernel_rfl)) rfl rfl ?_
  refine G_op [0] (v := (.val (.int .i64 (if p_l.Open < (if p_l.Short < p_l.Long then p_l.Short else p_l.Long) then p_l.Open else (if p_l.Short < p_l.Long then p_l.Short else p_l.Long))))) (E_p (by kernel_rfl)) rfl rfl ?_
  refine G_op [0] (v := (.val (.bool (decide ((if p_l.Open < (if p_l.Short < p_l.Long then p_l.Short else p_l.Long) then p_l.Open else (if p_l.Short < p_l.Long then p_l.Short else p_l.Long)) ≥ 0))))) (E_p (by kernel_rfl)) rfl rfl ?_
  refine G_op [0] (v := (.val (.bool (decide ((if p_l.Open < (if p_l.Short < p_l.Long then p_l.Short else p_l.Long) then p_l.Open else (if p_l.Short < p_l.Long then p_l.Short else p_l.Long)) ≥ 0))))) (E_p (by kernel_rfl)) rfl rfl ?_
  refine G_nil ?_
  refine G_then ?_
  refine G_subW (s0 := ⟨⟨11, [(2, (.val (.bool (decide ((if p_l.Open < (if p_l.Short < p_l.Long then p_l.Short else p_l.Long) then p_l.Open else (if p_l.Short < p_l.Long then p_l.Short else p_l.Long)) ≥ 0)))))]⟩, mkH []⟩) (by exact Sub_keep ⟨.refl _, trivial⟩ trivial (by kernel_rfl) (by kernel_rfl)) ?_
  refine G_ret ?_
  refine G_retR ?_
  refine q_some fun hA => ?_
  show outV _ _ = some _
  kernel_rfl
theorem s22 (x0 : ExpoT) (ds : List DV) (hd : List.map z1 ds = List.map z1 [.agg (e_ExpoT x0)]) : sp22 ds = (g_limit_Right x0).map fun r => .bool r :=
  specT_at (ea := fun (a : ExpoT) => [.agg (e_ExpoT a)]) (eb := fun (r : Bool) => .bool r) (g := fun (a : ExpoT) => g_limit_Right a) inj22 x0 hd

def k44_0 : ACode := (.region (⟨(some 3), (.p (.foff 0 (.t 1))), none⟩ :: ⟨(some 4), (.r (.load 1 false (.t 3))), none⟩ :: ⟨(some 5), (.p (.foff 1 (.t 1))), none⟩ :: ⟨(some 6), (.r (.load 1 false (.t 5))), none⟩ :: ⟨(some 7), (.p (.foff 2 (.t 1))), none⟩ :: ⟨(some 8), (.r (.load 1 false (.t 7))), none⟩ :: ⟨(some 9), (.p (.build [(.int .i64 0), (.int .i64 0), (.int .i64 0)] [(0, (1, (.t 4))), (1, (1, (.t 6))), (2, (1, (.t 8)))])), none⟩ :: ⟨none, (.w (.store 3 (.t 2) (.t 9))), none⟩ :: []))
def k44_1 : ACode := (.seq k44_0 .ret)
def cd44 : ACode := (.seq (.region (⟨(some 1), (.a (.bx (.t 0))), none⟩ :: ⟨(some 2), (.a (.alloc [(.int .i64 0), (.int .i64 0), (.int .i64 0)])), none⟩ :: [])) k44_1)
def rs44 : List ARes := [(.cell 2 3 true)]
def af44 : AFn := ⟨cd44, rs44, 10⟩
theorem c44 : compF Try.prog 44 = some af44 := by kernel_rfl
noncomputable def g_limit_three (p_x : ExpoT) : Option (Arr3 Int) := (some (Arr3.mk p_x.Long p_x.Short p_x.Open))
noncomputable def sp44 : List DV → Option DV := specT (fun (a : ExpoT) => [.agg (e_ExpoT a)]) (fun (r : (Arr3 Int)) => .agg ((e_arr3 e_i64) r)) (fun (a : ExpoT) => g_limit_three a)
theorem inj44 : ∀ (a b : ExpoT), List.map z1 ((fun (a : ExpoT) => [.agg (e_ExpoT a)]) a) = List.map z1 ((fun (a : ExpoT) => [.agg (e_ExpoT a)]) b) → a = b := by
  intro a0 b0 h
  simp only [List.map_cons, List.map_nil, List.cons.injEq, and_true] at h
  exact (e_ExpoT_inj (DV.agg.inj h))
set_option maxHeartbeats 1000000 in
theorem w44 {C : FuncId → Con} (hC : ConOk Try.prog C) : ValOk Try.prog 44 sp44 := by
  refine valT_of hC c44 _ _ _ inj44 ?_
  intro p_x
  show Imq (g_limit_three p_x) (fun _ => True) fun r => WP Try.prog C (fun _ => False) cd44 (retQ fun s => outV s rs44 = some (.agg ((e_arr3 e_i64) r))) ⟨⟨10, [(0, (.val (.agg [(.int .i64 p_x.Long), (.int .i64 p_x.Short), (.int .i64 p_x.Open)])))]⟩, mkH []⟩
  unfold g_limit_three
  refine G_seq ?_
  refine G_region ?_
  refine G_op [1001] (v := (.box [1001] 0)) (E_a (u := (.box [1001] 0)) (b := (.box [(.val (.int .i64 p_x.Long)), (.val (.int .i64 p_x.Short)), (.val (.int .i64 p_x.Open))])) (h' := [([1001], (.box [(.val (.int .i64 p_x.Long)), (.val (.int .i64 p_x.Short)), (.val (.int .i64 p_x.Open))]))]) (by kernel_rfl) (by kernel_rfl) (by kernel_rfl)) rfl rfl ?_
  refine G_op [1002] (v := (.box [1002] 0)) (E_a (u := (.box [1002] 0)) (b := (.box [(.val (.int .i64 0)), (.val (.int .i64 0)), (.val (.int .i64 0))])) (h' := [([1001], (.box [(.val (.int .i64 p_x.Long)), (.val (.int .i64 p_x.Short)), (.val (.int .i64 p_x.Open))])), ([1002], (.box [(.val (.int .i64 0)), (.val (.int .i64 0)), (.val (.int .i64 0))]))]) (by kernel_rfl) (by kernel_rfl) (by kernel_rfl)) rfl rfl ?_
  refine G_nil ?_
  refine G_then ?_
  refine G_seq ?_
  refine G_region ?_
  refine G_op [0] (v := (.box [1001] 0)) (E_p (by kernel_rfl)) rfl rfl ?_
  refine G_op [0] (v := (.val (.int .i64 p_x.Long))) (E_load (by kernel_rfl)) rfl rfl ?_
  refine G_op [0] (v := (.box [1001] 1)) (E_p (by kernel_rfl)) rfl rfl ?_
  refine G_op [0] (v := (.val (.int .i64 p_x.Short))) (E_load (by kernel_rfl)) rfl rfl ?_
  refine G_op [0] (v := (.box [1001] 2)) (E_p (by kernel_rfl)) rfl rfl ?_
  refine G_op [0] (v := (.val (.int .i64 p_x.Open))) (E_load (by kernel_rfl)) rfl rfl ?_
  refine G_op [0] (v := (.agg [(.val (.int .i64 p_x.Long)), (.val (.int .i64 p_x.Short)), (.val (.int .i64 p_x.Open))])) (E_p (by kernel_rfl)) rfl rfl ?_
  refine G_op0 [0] (v := (.val (.tup []))) (E_store (b := [1002]) (o := 0) (cs := [(.val (.int .i64 p_x.Long)), (.val (.int .i64 p_x.Short)), (.val (.int .i64 p_x.Open))]) (cells := [(.val (.int .i64 0)), (.val (.int .i64 0)), (.val (.int .i64 0))]) (cells' := [(.val (.int .i64 p_x.Long)), (.val (.int .i64 p_x.Short)), (.val (.int .i64 p_x.Open))]) (h' := [([1001], (.box [(.val (.int .i64 p_x.Long)), (.val (.int .i64 p_x.Short)), (.val (.int .i64 p_x.Open))])), ([1002], (.box [(.val (.int .i64 p_x.Long)), (.val (.int .i64 p_x.Short)), (.val (.int .i64 p_x.Open))]))]) (by kernel_rfl) (by kernel_rfl) (by kernel_rfl) rfl (by kernel_rfl) (by kernel_rfl) (by kernel_rfl) (by kernel_rfl)) rfl ?_
  refine G_nil ?_
  refine G_then ?_
  refine G_subW (s0 := ⟨⟨10, [(2, (.box [1002] 0))]⟩, mkH [([1002], (.box [(.val (.int .i64 p_x.Long)), (.val (.int .i64 p_x.Short)), (.val (.int .i64 p_x.Open))]))]⟩) (by exact Sub_keep ⟨.refl _, trivial⟩ ⟨⟨_, (by kernel_rfl), .refl _⟩, trivial⟩ (by kernel_rfl) (by kernel_rfl)) ?_
  refine G_ret ?_
  refine G_retR ?_
  refine q_some fun hA => ?_
  show outV _ _ = some _
  kernel_rfl
theorem s44 (x0 : ExpoT) (ds : List DV) (hd : List.map z1 ds = List.map z1 [.agg (e_ExpoT x0)]) : sp44 ds = (g_limit_three x0).map fun r => .agg ((e_arr3 e_i64) r) :=
  specT_at (ea := fun (a : ExpoT) => [.agg (e_ExpoT a)]) (eb := fun (r : (Arr3 Int)) => .agg ((e_arr3 e_i64) r)) (g := fun (a : ExpoT) => g_limit_three a) inj44 x0 hd

def k26_0 : ACode := (.region (⟨(some 7), (.p (.mv (.t 1))), none⟩ :: ⟨(some 8), (.p (.mv (.t 0))), none⟩ :: ⟨(some 9), (.p (.mv (.t 2))), none⟩ :: ⟨(some 10), (.p (.mnx true (.t 8) [(.t 9)])), none⟩ :: ⟨(some 11), (.p (.bin .gtr (.t 7) (.t 10))), none⟩ :: ⟨(some 6), (.p (.mv (.t 11))), none⟩ :: []))
def k26_1 : ACode := (.seq k26_0 .ret)
def cd26 : ACode := (.seq (.region (⟨(some 6), (.p (.mv (.c (.bool false)))), none⟩ :: [])) k26_1)
def rs26 : List ARes := [(.tmp 6)]
def af26 : AFn := ⟨cd26, rs26, 12⟩
theorem c26 : compF Try.prog 26 = some af26 := by kernel_rfl
noncomputable def g_limit_AgainstCap (p_was : Int) (p_now : Int) (p_cap : Int) : Option Bool := (some (decide (p_now > (if p_cap > p_was then p_cap else p_was))))
noncomputable def sp26 : List DV → Option DV := specT (fun (a : Int × Int × Int) => [.int .i64 a.1, .int .i64 a.2.1, .int .i64 a.2.2]) (fun (r : Bool) => .bool r) (fun (a : Int × Int × Int) => g_limit_AgainstCap a.1 a.2.1 a.2.2)
theorem inj26 : ∀ (a b : Int × Int × Int), List.map z1 ((fun (a : Int × Int × Int) => [.int .i64 a.1, .int .i64 a.2.1, .int .i64 a.2.2]) a) = List.map z1 ((fun (a : Int × Int × Int) => [.int .i64 a.1, .int .i64 a.2.1, .int .i64 a.2.2]) b) → a = b := by
  rintro ⟨a0, a1, a2⟩ ⟨b0, b1, b2⟩ h
  simp only [List.map_cons, List.map_nil, List.cons.injEq, and_true] at h
  obtain ⟨h0, h1, h2⟩ := h
  exact (pair_eq (DV.int.inj h0).2 (pair_eq (DV.int.inj h1).2 (DV.int.inj h2).2))
set_option maxHeartbeats 1000000 in
theorem w26 {C : FuncId → Con} (hC : ConOk Try.prog C) : ValOk Try.prog 26 sp26 := by
  refine valT_of hC c26 _ _ _ inj26 ?_
  rintro ⟨p_was, p_now, p_cap⟩
  show Imq (g_limit_AgainstCap p_was p_now p_cap) (fun _ => True) fun r => WP Try.prog C (fun _ => False) cd26 (retQ fun s => outV s rs26 = some (.bool r)) ⟨⟨12, [(0, (.val (.int .i64 p_was))), (1, (.val (.int .i64 p_now))), (2, (.val (.int .i64 p_cap)))]⟩, mkH []⟩
  unfold g_limit_AgainstCap
  refine G_seq ?_
  refine G_region ?_
  refine G_op [0] (v := (.val (.bool false))) (E_p (by kernel_rfl)) rfl rfl ?_
  refine G_nil ?_
  refine G_then ?_
  refine G_seq ?_
  refine G_region ?_
  refine G_op [0] (v := (.val (.int .i64 p_now))) (E_p (by kernel_rfl)) rfl rfl ?_
  refine G_op [0] (v := (.val (.int .i64 p_was))) (E_p (by kernel_rfl)) rfl rfl ?_
  refine G_op [0] (v := (.val (.int .i64 p_cap))) (E_p (by kernel_rfl)) rfl rfl ?_
  refine G_op [0] (v := (.val (.int .i64 (if p_cap > p_was then p_cap else p_was)))) (E_p (by kernel_rfl)) rfl rfl ?_
  refine G_op [0] (v := (.val (.bool (decide (p_now > (if p_cap > p_was then p_cap else p_was)))))) (E_p (by kernel_rfl)) rfl rfl ?_
  refine G_op [0] (v := (.val (.bool (decide (p_now > (if p_cap > p_was then p_cap else p_was)))))) (E_p (by kernel_rfl)) rfl rfl ?_
  refine G_nil ?_
  refine G_then ?_
  refine G_ret ?_
  refine G_retR ?_
  refine q_some fun hA => ?_
  show outV _ _ = some _
  kernel_rfl
theorem s26 (x0 : Int) (x1 : Int) (x2 : Int) (ds : List DV) (hd : List.map z1 ds = List.map z1 [.int .i64 x0, .int .i64 x1, .int .i64 x2]) : sp26 ds = (g_limit_AgainstCap x0 x1 x2).map fun r => .bool r :=
  specT_at (ea := fun (a : Int × Int × Int) => [.int .i64 a.1, .int .i64 a.2.1, .int .i64 a.2.2]) (eb := fun (r : Bool) => .bool r) (g := fun (a : Int × Int × Int) => g_limit_AgainstCap a.1 a.2.1 a.2.2) inj26 (x0, x1, x2) hd

def k24_0 : ACode := (.region (⟨(some 3), (.a (.bx (.t 0))), none⟩ :: ⟨(some 4), (.a (.bx (.t 1))), none⟩ :: ⟨(some 5), (.a (.bx (.t 2))), none⟩ :: ⟨(some 6), (.p (.mv (.c (.bool false)))), none⟩ :: []))
def k24_1 : ACode := (.draw (⟨(some 11), (.r (.load 3 true (.t 3))), none⟩ :: ⟨(some 12), (.r (.call 44 [(.t 11)])), none⟩ :: ⟨(some 13), (.r (.load 3 true (.t 4))), none⟩ :: ⟨(some 14), (.r (.call 44 [(.t 13)])), none⟩ :: ⟨(some 15), (.r (.load 3 true (.t 5))), none⟩ :: ⟨(some 16), (.r (.call 44 [(.t 15)])), none⟩ :: ⟨(some 7), (.a (.alloc [(.int .i64 0), (.int .i64 0), (.int .i64 0)])), none⟩ :: ⟨(some 8), (.a (.alloc [(.int .i64 0), (.int .i64 0), (.int .i64 0)])), none⟩ :: ⟨(some 9), (.a (.alloc [(.int .i64 0), (.int .i64 0), (.int .i64 0)])), none⟩ :: ⟨none, (.w (.store 3 (.t 7) (.t 12))), none⟩ :: ⟨none, (.w (.store 3 (.t 8) (.t 14))), none⟩ :: ⟨none, (.w (.store 3 (.t 9) (.t 16))), none⟩ :: []))
def k24_2 : ACode := (.draw (⟨(some 20), (.p (.mv (.t 10))), none⟩ :: ⟨(some 21), (.p (.aoff 3 1 (.t 7) (.t 20))), none⟩ :: ⟨(some 22), (.r (.load 1 false (.t 21))), none⟩ :: ⟨(some 23), (.p (.mv (.t 10))), none⟩ :: ⟨(some 24), (.p (.aoff 3 1 (.t 8) (.t 23))), none⟩ :: ⟨(some 25), (.r (.load 1 false (.t 24))), none⟩ :: ⟨(some 26), (.p (.mv (.t 10))), none⟩ :: ⟨(some 27), (.p (.aoff 3 1 (.t 9) (.t 26))), none⟩ :: ⟨(some 28), (.r (.load 1 false (.t 27))), none⟩ :: ⟨(some 29), (.r (.call 26 [(.t 22), (.t 25), (.t 28)])), none⟩ :: []))
def k24_3 : ACode := (.seq k24_2 (.cond (.t 29) (.seq (.region (⟨(some 6), (.p (.mv (.c (.bool true)))), none⟩ :: [])) .ret) .skip))
def k24_4 : ACode := (.seq (.region (⟨(some 19), (.p (.mv (.t 17))), none⟩ :: ⟨(some 10), (.p (.mv (.t 19))), none⟩ :: [])) k24_3)
def k24_5 : ACode := (.block 1 k24_4)
def k24_6 : ACode := (.seq k24_5 (.region (⟨(some 30), (.p (.bin .add (.t 17) (.c (.int .i64 1)))), none⟩ :: ⟨(some 17), (.p (.mv (.t 30))), none⟩ :: [])))
def k24_7 : ACode := (.seq (.cond (.t 18) .skip (.exit 0)) k24_6)
def k24_8 : ACode := (.seq (.region (⟨(some 18), (.p (.bin .lss (.t 17) (.c (.int .i64 3)))), none⟩ :: [])) k24_7)
def k24_9 : ACode := (.block 0 (.loop k24_8))
def k24_10 : ACode := (.seq (.region (⟨(some 17), (.p (.mv (.c (.int .i64 0)))), none⟩ :: [])) k24_9)
def k24_11 : ACode := (.seq k24_10 (.seq (.region (⟨(some 6), (.p (.mv (.c (.bool false)))), none⟩ :: [])) .ret))
def k24_12 : ACode := (.seq k24_1 k24_11)
def cd24 : ACode := (.seq k24_0 k24_12)
def rs24 : List ARes := [(.tmp 6)]
def af24 : AFn := ⟨cd24, rs24, 31⟩
theorem c24 : compF Try.prog 24 = some af24 := by kernel_rfl
noncomputable def g_limit_Against (p_was : ExpoT) (p_now : ExpoT) (p_l : ExpoT) : Option Bool := (Option.bind (g_limit_three p_was) fun v1 => (Option.bind (g_limit_three p_now) fun v2 => (Option.bind (g_limit_three p_l) fun v3 => (Option.bind (g_limit_AgainstCap v1.a0 v2.a0 v3.a0) fun v4 => (bif v4 then (some true) else (Option.bind (g_limit_AgainstCap v1.a1 v2.a1 v3.a1) fun v5 => (bif v5 then (some true) else (Option.bind (g_limit_AgainstCap v1.a2 v2.a2 v3.a2) fun v6 => (bif v6 then (some true) else (some false))))))))))
noncomputable def sp24 : List DV → Option DV := specT (fun (a : ExpoT × ExpoT × ExpoT) => [.agg (e_ExpoT a.1), .agg (e_ExpoT a.2.1), .agg (e_ExpoT a.2.2)]) (fun (r : Bool) => .bool r) (fun (a : ExpoT × ExpoT × ExpoT) => g_limit_Against a.1 a.2.1 a.2.2)
theorem inj24 : ∀ (a b : ExpoT × ExpoT × ExpoT), List.map z1 ((fun (a : ExpoT × ExpoT × ExpoT) => [.agg (e_ExpoT a.1), .agg (e_ExpoT a.2.1), .agg (e_ExpoT a.2.2)]) a) = List.map z1 ((fun (a : ExpoT × ExpoT × ExpoT) => [.agg (e_ExpoT a.1), .agg (e_ExpoT a.2.1), .agg (e_ExpoT a.2.2)]) b) → a = b := by
  rintro ⟨a0, a1, a2⟩ ⟨b0, b1, b2⟩ h
  simp only [List.map_cons, List.map_nil, List.cons.injEq, and_true] at h
  obtain ⟨h0, h1, h2⟩ := h
  exact (pair_eq (e_ExpoT_inj (DV.agg.inj h0)) (pair_eq (e_ExpoT_inj (DV.agg.inj h1)) (e_ExpoT_inj (DV.agg.inj h2))))
set_option maxHeartbeats 1000000 in
theorem w24 {C : FuncId → Con} (hC : ConOk Try.prog C) {q44 : List DV → Option DV} (hc44 : C 44 = .val q44) (hs44 : ∀ (x0 : ExpoT) (ds : List DV), List.map z1 ds = List.map z1 [.agg (e_ExpoT x0)] → q44 ds = (g_limit_three x0).map fun r => .agg ((e_arr3 e_i64) r)) {q26 : List DV → Option DV} (hc26 : C 26 = .val q26) (hs26 : ∀ (x0 : Int) (x1 : Int) (x2 : Int) (ds : List DV), List.map z1 ds = List.map z1 [.int .i64 x0, .int .i64 x1, .int .i64 x2] → q26 ds = (g_limit_AgainstCap x0 x1 x2).map fun r => .bool r) : ValOk Try.prog 24 sp24 := by
  refine valT_of hC c24 _ _ _ inj24 ?_
  rintro ⟨p_was, p_now, p_l⟩
  show Imq (g_limit_Against p_was p_now p_l) (fun _ => True) fun r => WP Try.prog C (fun _ => False) cd24 (retQ fun s => outV s rs24 = some (.bool r)) ⟨⟨31, [(0, (.val (.agg [(.int .i64 p_was.Long), (.int .i64 p_was.Short), (.int .i64 p_was.Open)]))), (1, (.val (.agg [(.int .i64 p_now.Long), (.int .i64 p_now.Short), (.int .i64 p_now.Open)]))), (2, (.val (.agg [(.int .i64 p_l.Long), (.int .i64 p_l.Short), (.int .i64 p_l.Open)])))]⟩, mkH []⟩
  unfold g_limit_Against
  refine G_seq ?_
  refine G_region ?_
  refine G_op [1001] (v := (.box [1001] 0)) (E_a (u := (.box [1001] 0)) (b := (.box [(.val (.int .i64 p_was.Long)), (.val (.int .i64 p_was.Short)), (.val (.int .i64 p_was.Open))])) (h' := [([1001], (.box [(.val (.int .i64 p_was.Long)), (.val (.int .i64 p_was.Short)), (.val (.int .i64 p_was.Open))]))]) (by kernel_rfl) (by kernel_rfl) (by kernel_rfl)) rfl rfl ?_
  refine G_op [1002] (v := (.box [1002] 0)) (E_a (u := (.box [1002] 0)) (b := (.box [(.val (.int .i64 p_now.Long)), (.val (.int .i64 p_now.Short)), (.val (.int .i64 p_now.Open))])) (h' := [([1001], (.box [(.val (.int .i64 p_was.Long)), (.val (.int .i64 p_was.Short)), (.val (.int .i64 p_was.Open))])), ([1002], (.box [(.val (.int .i64 p_now.Long)), (.val (.int .i64 p_now.Short)), (.val (.int .i64 p_now.Open))]))]) (by kernel_rfl) (by kernel_rfl) (by kernel_rfl)) rfl rfl ?_
  refine G_op [1003] (v := (.box [1003] 0)) (E_a (u := (.box [1003] 0)) (b := (.box [(.val (.int .i64 p_l.Long)), (.val (.int .i64 p_l.Short)), (.val (.int .i64 p_l.Open))])) (h' := [([1001], (.box [(.val (.int .i64 p_was.Long)), (.val (.int .i64 p_was.Short)), (.val (.int .i64 p_was.Open))])), ([1002], (.box [(.val (.int .i64 p_now.Long)), (.val (.int .i64 p_now.Short)), (.val (.int .i64 p_now.Open))])), ([1003], (.box [(.val (.int .i64 p_l.Long)), (.val (.int .i64 p_l.Short)), (.val (.int .i64 p_l.Open))]))]) (by kernel_rfl) (by kernel_rfl) (by kernel_rfl)) rfl rfl ?_
  refine G_op [0] (v := (.val (.bool false))) (E_p (by kernel_rfl)) rfl rfl ?_
  refine G_nil ?_
  refine G_then ?_
  refine G_seq ?_
  refine G_draw ?_
  refine X_op (w := (.agg [(.val (.int .i64 p_was.Long)), (.val (.int .i64 p_was.Short)), (.val (.int .i64 p_was.Open))])) (v := (.agg [(.val (.int .i64 p_was.Long)), (.val (.int .i64 p_was.Short)), (.val (.int .i64 p_was.Open))])) (E_load (by kernel_rfl)) rfl rfl rfl ?_
  refine q_bind fun v1 hv1 => ?_
  refine X_op (w := (.val (.agg [(.int .i64 v1.a0), (.int .i64 v1.a1), (.int .i64 v1.a2)]))) (v := (.val (.agg [(.int .i64 v1.a0), (.int .i64 v1.a1), (.int .i64 v1.a2)]))) (E_callX (ds := [.agg (e_ExpoT p_was)]) (ids := []) (r := .agg ((e_arr3 e_i64) v1)) hc44 (by kernel_rfl) ((hs44 p_was _ (by kernel_rfl)).trans (congrArg _ hv1)) (by kernel_rfl)) rfl rfl rfl ?_
  refine X_op (w := (.agg [(.val (.int .i64 p_now.Long)), (.val (.int .i64 p_now.Short)), (.val (.int .i64 p_now.Open))])) (v := (.agg [(.val (.int .i64 p_now.Long)), (.val (.int .i64 p_now.Short)), (.val (.int .i64 p_now.Open))])) (E_load (by kernel_rfl)) rfl rfl rfl ?_
  refine q_bind fun v2 hv2 => ?_
  refine X_op (w := (.val (.agg [(.int .i64 v2.a0), (.int .i64 v2.a1), (.int .i64 v2.a2)]))) (v := (.val (.agg [(.int .i64 v2.a0), (.int .i64 v2.a1), (.int .i64 v2.a2)]))) (E_callX (ds := [.agg (e_ExpoT p_now)]) (ids := []) (r := .agg ((e_arr3 e_i64) v2)) hc44 (by kernel_rfl) ((hs44 p_now _ (by kernel_rfl)).trans (congrArg _ hv2)) (by kernel_rfl)) rfl rfl rfl ?_
  refine X_op (w := (.agg [(.val (.int .i64 p_l.Long)), (.val (.int .i64 p_l.Short)), (.val (.int .i64 p_l.Open))])) (v := (.agg [(.val (.int .i64 p_l.Long)), (.val (.int .i64 p_l.Short)), (.val (.int .i64 p_l.Open))])) (E_load (by kernel_rfl)) rfl rfl rfl ?_
  refine q_bind fun v3 hv3 => ?_
  refine X_op (w := (.val (.agg [(.int .i64 v3.a0), (.int .i64 v3.a1), (.int .i64 v3.a2)]))) (v := (.val (.agg [(.int .i64 v3.a0), (.int .i64 v3.a1), (.int .i64 v3.a2)]))) (E_callX (ds := [.agg (e_ExpoT p_l)]) (ids := []) (r := .agg ((e_arr3 e_i64) v3)) hc44 (by kernel_rfl) ((hs44 p_l _ (by kernel_rfl)).trans (congrArg _ hv3)) (by kernel_rfl)) rfl rfl rfl ?_
  refine X_op (w := (.box [7] 0)) (v := (.box [7] 0)) (E_a (u := (.box [7] 0)) (b := (.box [(.val (.int .i64 0)), (.val (.int .i64 0)), (.val (.int .i64 0))])) (h' := [([1001], (.box [(.val (.int .i64 p_was.Long)), (.val (.int .i64 p_was.Short)), (.val (.int .i64 p_was.Open))])), ([1002], (.box [(.val (.int .i64 p_now.Long)), (.val (.int .i64 p_now.Short)), (.val (.int .i64 p_now.Open))])), ([1003], (.box [(.val (.int .i64 p_l.Long)), (.val (.int .i64 p_l.Short)), (.val (.int .i64 p_l.Open))])), ([7], (.box [(.val (.int .i64 0)), (.val (.int .i64 0)), (.val (.int .i64 0))]))]) (by kernel_rfl) (by kernel_rfl) (by kernel_rfl)) rfl rfl rfl ?_
  refine X_op (w := (.box [8] 0)) (v := (.box [8] 0)) (E_a (u := (.box [8] 0)) (b := (.box [(.val (.int .i64 0)), (.val (.int .i64 0)), (.val (.int .i64 0))])) (h' := [([1001], (.box [(.val (.int .i64 p_was.Long)), (.val (.int .i64 p_was.Short)), (.val (.int .i64 p_was.Open))])), ([1002], (.box [(.val (.int .i64 p_now.Long)), (.val (.int .i64 p_now.Short)), (.val (.int .i64 p_now.Open))])), ([1003], (.box [(.val (.int .i64 p_l.Long)), (.val (.int .i64 p_l.Short)), (.val (.int .i64 p_l.Open))])), ([7], (.box [(.val (.int .i64 0)), (.val (.int .i64 0)), (.val (.int .i64 0))])), ([8], (.box [(.val (.int .i64 0)), (.val (.int .i64 0)), (.val (.int .i64 0))]))]) (by kernel_rfl) (by kernel_rfl) (by kernel_rfl)) rfl rfl rfl ?_
  refine X_op (w := (.box [9] 0)) (v := (.box [9] 0)) (E_a (u := (.box [9] 0)) (b := (.box [(.val (.int .i64 0)), (.val (.int .i64 0)), (.val (.int .i64 0))])) (h' := [([1001], (.box [(.val (.int .i64 p_was.Long)), (.val (.int .i64 p_was.Short)), (.val (.int .i64 p_was.Open))])), ([1002], (.box [(.val (.int .i64 p_now.Long)), (.val (.int .i64 p_now.Short)), (.val (.int .i64 p_now.Open))])), ([1003], (.box [(.val (.int .i64 p_l.Long)), (.val (.int .i64 p_l.Short)), (.val (.int .i64 p_l.Open))])), ([7], (.box [(.val (.int .i64 0)), (.val (.int .i64 0)), (.val (.int .i64 0))])), ([8], (.box [(.val (.int .i64 0)), (.val (.int .i64 0)), (.val (.int .i64 0))])), ([9], (.box [(.val (.int .i64 0)), (.val (.int .i64 0)), (.val (.int .i64 0))]))]) (by kernel_rfl) (by kernel_rfl) (by kernel_rfl)) rfl rfl rfl ?_
  refine X_op0 (v := (.val (.tup []))) (E_store (b := [7]) (o := 0) (cs := [(.val (.int .i64 v1.a0)), (.val (.int .i64 v1.a1)), (.val (.int .i64 v1.a2))]) (cells := [(.val (.int .i64 0)), (.val (.int .i64 0)), (.val (.int .i64 0))]) (cells' := [(.val (.int .i64 v1.a0)), (.val (.int .i64 v1.a1)), (.val (.int .i64 v1.a2))]) (h' := [([1001], (.box [(.val (.int .i64 p_was.Long)), (.val (.int .i64 p_was.Short)), (.val (.int .i64 p_was.Open))])), ([1002], (.box [(.val (.int .i64 p_now.Long)), (.val (.int .i64 p_now.Short)), (.val (.int .i64 p_now.Open))])), ([1003], (.box [(.val (.int .i64 p_l.Long)), (.val (.int .i64 p_l.Short)), (.val (.int .i64 p_l.Open))])), ([7], (.box [(.val (.int .i64 v1.a0)), (.val (.int .i64 v1.a1)), (.val (.int .i64 v1.a2))])), ([8], (.box [(.val (.int .i64 0)), (.val (.int .i64 0)), (.val (.int .i64 0))])), ([9], (.box [(.val (.int .i64 0)), (.val (.int .i64 0)), (.val (.int .i64 0))]))]) (by kernel_rfl) (by kernel_rfl) (by kernel_rfl) rfl (by kernel_rfl) (by kernel_rfl) (by kernel_rfl) (by kernel_rfl)) rfl ?_
  refine X_op0 (v := (.val (.tup []))) (E_store (b := [8]) (o := 0) (cs := [(.val (.int .i64 v2.a0)), (.val (.int .i64 v2.a1)), (.val (.int .i64 v2.a2))]) (cells := [(.val (.int .i64 0)), (.val (.int .i64 0)), (.val (.int .i64 0))]) (cells' := [(.val (.int .i64 v2.a0)), (.val (.int .i64 v2.a1)), (.val (.int .i64 v2.a2))]) (h' := [([1001], (.box [(.val (.int .i64 p_was.Long)), (.val (.int .i64 p_was.Short)), (.val (.int .i64 p_was.Open))])), ([1002], (.box [(.val (.int .i64 p_now.Long)), (.val (.int .i64 p_now.Short)), (.val (.int .i64 p_now.Open))])), ([1003], (.box [(.val (.int .i64 p_l.Long)), (.val (.int .i64 p_l.Short)), (.val (.int .i64 p_l.Open))])), ([7], (.box [(.val (.int .i64 v1.a0)), (.val (.int .i64 v1.a1)), (.val (.int .i64 v1.a2))])), ([8], (.box [(.val (.int .i64 v2.a0)), (.val (.int .i64 v2.a1)), (.val (.int .i64 v2.a2))])), ([9], (.box [(.val (.int .i64 0)), (.val (.int .i64 0)), (.val (.int .i64 0))]))]) (by kernel_rfl) (by kernel_rfl) (by kernel_rfl) rfl (by kernel_rfl) (by kernel_rfl) (by kernel_rfl) (by kernel_rfl)) rfl ?_
  refine X_op0 (v := (.val (.tup []))) (E_store (b := [9]) (o := 0) (cs := [(.val (.int .i64 v3.a0)), (.val (.int .i64 v3.a1)), (.val (.int .i64 v3.a2))]) (cells := [(.val (.int .i64 0)), (.val (.int .i64 0)), (.val (.int .i64 0))]) (cells' := [(.val (.int .i64 v3.a0)), (.val (.int .i64 v3.a1)), (.val (.int .i64 v3.a2))]) (h' := [([1001], (.box [(.val (.int .i64 p_was.Long)), (.val (.int .i64 p_was.Short)), (.val (.int .i64 p_was.Open))])), ([1002], (.box [(.val (.int .i64 p_now.Long)), (.val (.int .i64 p_now.Short)), (.val (.int .i64 p_now.Open))])), ([1003], (.box [(.val (.int .i64 p_l.Long)), (.val (.int .i64 p_l.Short)), (.val (.int .i64 p_l.Open))])), ([7], (.box [(.val (.int .i64 v1.a0)), (.val (.int .i64 v1.a1)), (.val (.int .i64 v1.a2))])), ([8], (.box [(.val (.int .i64 v2.a0)), (.val (.int .i64 v2.a1)), (.val (.int .i64 v2.a2))])), ([9], (.box [(.val (.int .i64 v3.a0)), (.val (.int .i64 v3.a1)), (.val (.int .i64 v3.a2))]))]) (by kernel_rfl) (by kernel_rfl) (by kernel_rfl) rfl (by kernel_rfl) (by kernel_rfl) (by kernel_rfl) (by kernel_rfl)) rfl ?_
  refine X_nil (m := [(9, (.box [9] 0)), (8, (.box [8] 0)), (7, (.box [7] 0)), (6, (.val (.bool false)))]) (by exact ⟨rfl, rfl, rfl, rfl, trivial⟩) ?_
  refine G_then ?_
  refine G_seq ?_
  refine G_seq ?_
  refine G_region ?_
  refine G_op [0] (v := (.val (.int .i64 0))) (E_p (by kernel_rfl)) rfl rfl ?_
  refine G_nil ?_
  refine G_then ?_
  refine G_block ?_
  refine G_subW (s0 := ⟨⟨31, [(17, (.val (.int .i64 0))), (9, (.box [9] 0)), (8, (.box [8] 0)), (7, (.box [7] 0)), (6, (.val (.bool false)))]⟩, mkH [([7], (.box [(.val (.int .i64 v1.a0)), (.val (.int .i64 v1.a1)), (.val (.int .i64 v1.a2))])), ([8], (.box [(.val (.int .i64 v2.a0)), (.val (.int .i64 v2.a1)), (.val (.int .i64 v2.a2))])), ([9], (.box [(.val (.int .i64 v3.a0)), (.val (.int .i64 v3.a1)), (.val (.int .i64 v3.a2))]))]⟩) (by exact Sub_keep ⟨.refl _, .refl _, .refl _, .refl _, .refl _, trivial⟩ ⟨⟨_, (by kernel_rfl), .refl _⟩, ⟨_, (by kernel_rfl), .refl _⟩, ⟨_, (by kernel_rfl), .refl _⟩, trivial⟩ (by kernel_rfl) (by kernel_rfl)) ?_
  refine G_loop0 ?_
  refine G_round ?_
  refine G_seq ?_
  refine G_region ?_
  refine G_op [0] (v := (.val (.bool true))) (E_p (by kernel_rfl)) rfl rfl ?_
  refine G_nil ?_
  refine G_then ?_
  refine G_seq ?_
  refine G_condT (by kernel_rfl) ?_
  refine G_skip ?_
  refine G_then ?_
  refine G_seq ?_
  refine G_block ?_
  refine G_seq ?_
  refine G_region ?_
  refine G_op [0] (v := (.val (.int .i64 0))) (E_p (by kernel_rfl)) rfl rfl ?_
  refine G_op [0] (v := (.val (.int .i64 0))) (E_p (by kernel_rfl)) rfl rfl ?_
  refine G_nil ?_
  refine G_then ?_
  refine G_seq ?_
  refine G_draw ?_
  refine X_op (w := (.val (.int .i64 0))) (v := (.val (.int .i64 0))) (E_p (by kernel_rfl)) rfl rfl rfl ?_
  refine X_op (w := (.box [7] 0)) (v := (.box [7] 0)) (E_p (by kernel_rfl)) rfl rfl rfl ?_
  refine X_op (w := (.val (.int .i64 v1.a0))) (v := (.val (.int .i64 v1.a0))) (E_load (by kernel_rfl)) rfl rfl rfl ?_
  refine X_op (w := (.val (.int .i64 0))) (v := (.val (.int .i64 0))) (E_p (by kernel_rfl)) rfl rfl rfl ?_
  refine X_op (w := (.box [8] 0)) (v := (.box [8] 0)) (E_p (by kernel_rfl)) rfl rfl rfl ?_
  refine X_op (w := (.val (.int .i64 v2.a0))) (v := (.val (.int .i64 v2.a0))) (E_load (by kernel_rfl)) rfl rfl rfl ?_
  refine X_op (w := (.val (.int .i64 0))) (v := (.val (.int .i64 0))) (E_p (by kernel_rfl)) rfl rfl rfl ?_
  refine X_op (w := (.box [9] 0)) (v := (.box [9] 0)) (E_p (by kernel_rfl)) rfl rfl rfl ?_
  refine X_op (w := (.val (.int .i64 v3.a0))) (v := (.val (.int .i64 v3.a0))) (E_load (by kernel_rfl)) rfl rfl rfl ?_
  refine q_bind fun v4 hv4 => ?_
  refine X_op (w := (.val (.bool v4))) (v := (.val (.bool v4))) (E_callX (ds := [.int .i64 v1.a0, .int .i64 v2.a0, .int .i64 v3.a0]) (ids := []) (r := .bool v4) hc26 (by kernel_rfl) ((hs26 v1.a0 v2.a0 v3.a0 _ (by kernel_rfl)).trans (congrArg _ hv4)) (by kernel_rfl)) rfl rfl rfl ?_
  refine X_nil (m := [(29, (.val (.bool v4))), (28, (.val (.int .i64 v3.a0))), (27, (.box [9] 0)), (26, (.val (.int .i64 0))), (25, (.val (.int .i64 v2.a0))), (24, (.box [8] 0)), (23, (.val (.int .i64 0))), (22, (.val (.int .i64 v1.a0))), (21, (.box [7] 0)), (20, (.val (.int .i64 0))), (10, (.val (.int .i64 0))), (19, (.val (.int .i64 0))), (18, (.val (.bool true))), (17, (.val (.int .i64 0))), (9, (.box [9] 0)), (8, (.box [8] 0)), (7, (.box [7] 0)), (6, (.val (.bool false)))]) (by exact ⟨rfl, rfl, rfl, rfl, rfl, rfl, rfl, rfl, rfl, rfl, rfl, rfl, rfl, rfl, rfl, rfl, rfl, rfl, trivial⟩) ?_
  refine G_then ?_
  refine G_cond (t := v4) (by kernel_rfl) (fun _ => ?_) (fun _ => ?_)
  · refine G_seq ?_
    refine G_region ?_
    refine G_op [0] (v := (.val (.bool true))) (E_p (by kernel_rfl)) rfl rfl ?_
    refine G_nil ?_
    refine G_then ?_
    refine G_ret ?_
    refine G_inBR ?_
    refine G_thenR ?_
    refine G_thenR ?_
    refine G_inBR ?_
    refine G_thenR ?_
    refine G_retR ?_
    refine q_some fun hA => ?_
    show outV _ _ = some _
    kernel_rfl
  · refine G_skip ?_
    refine G_inB ?_
    refine G_then ?_
    refine G_region ?_
    refine G_op [0] (v := (.val (.int .i64 1))) (E_p (by kernel_rfl)) rfl rfl ?_
    refine G_op [0] (v := (.val (.int .i64 1))) (E_p (by kernel_rfl)) rfl rfl ?_
    refine G_nil ?_
    refine G_then ?_
    refine G_subD (s0 := ⟨⟨31, [(17, (.val (.int .i64 1))), (30, (.val (.int .i64 1))), (29, (.val (.bool v4))), (28, (.val (.int .i64 v3.a0))), (27, (.box [9] 0)), (26, (.val (.int .i64 0))), (25, (.val (.int .i64 v2.a0))), (24, (.box [8] 0)), (23, (.val (.int .i64 0))), (22, (.val (.int .i64 v1.a0))), (21, (.box [7] 0)), (20, (.val (.int .i64 0))), (10, (.val (.int .i64 0))), (19, (.val (.int .i64 0))), (18, (.val (.bool true))), (9, (.box [9] 0)), (8, (.box [8] 0)), (7, (.box [7] 0)), (6, (.val (.bool false)))]⟩, mkH [([7], (.box [(.val (.int .i64 v1.a0)), (.val (.int .i64 v1.a1)), (.val (.int .i64 v1.a2))])), ([8], (.box [(.val (.int .i64 v2.a0)), (.val (.int .i64 v2.a1)), (.val (.int .i64 v2.a2))])), ([9], (.box [(.val (.int .i64 v3.a0)), (.val (.int .i64 v3.a1)), (.val (.int .i64 v3.a2))]))]⟩) (by exact Sub_env ⟨.refl _, .refl _, .refl _, .refl _, .refl _, .refl _, .refl _, .refl _, .refl _, .refl _, .refl _, .refl _, .refl _, .refl _, .refl _, .refl _, .refl _, .refl _, .refl _, trivial⟩) ?_
    refine G_round ?_
    refine G_seq ?_
    refine G_region ?_
    refine G_op [0] (v := (.val (.bool true))) (E_p (by kernel_rfl)) rfl rfl ?_
    refine G_nil ?_
    refine G_then ?_
    refine G_seq ?_
    refine G_condT (by kernel_rfl) ?_
    refine G_skip ?_
    refine G_then ?_
    refine G_seq ?_
    refine G_block ?_
    refine G_seq ?_
    refine G_region ?_
    refine G_op [0] (v := (.val (.int .i64 1))) (E_p (by kernel_rfl)) rfl rfl ?_
    refine G_op [0] (v := (.val (.int .i64 1))) (E_p (by kernel_rfl)) rfl rfl ?_
    refine G_nil ?_
    refine G_then ?_
    refine G_seq ?_
    refine G_draw ?_
    refine X_op (w := (.val (.int .i64 1))) (v := (.val (.int .i64 1))) (E_p (by kernel_rfl)) rfl rfl rfl ?_
    refine X_op (w := (.box [7] 1)) (v := (.box [7] 1)) (E_p (by kernel_rfl)) rfl rfl rfl ?_
    refine X_op (w := (.val (.int .i64 v1.a1))) (v := (.val (.int .i64 v1.a1))) (E_load (by kernel_rfl)) rfl rfl rfl ?_
    refine X_op (w := (.val (.int .i64 1))) (v := (.val (.int .i64 1))) (E_p (by kernel_rfl)) rfl rfl rfl ?_
    refine X_op (w := (.box [8] 1)) (v := (.box [8] 1)) (E_p (by kernel_rfl)) rfl rfl rfl ?_
    refine X_op (w := (.val (.int .i64 v2.a1))) (v := (.val (.int .i64 v2.a1))) (E_load (by kernel_rfl)) rfl rfl rfl ?_
    refine X_op (w := (.val (.int .i64 1))) (v := (.val (.int .i64 1))) (E_p (by kernel_rfl)) rfl rfl rfl ?_
    refine X_op (w := (.box [9] 1)) (v := (.box [9] 1)) (E_p (by kernel_rfl)) rfl rfl rfl ?_
    refine X_op (w := (.val (.int .i64 v3.a1))) (v := (.val (.int .i64 v3.a1))) (E_load (by kernel_rfl)) rfl rfl rfl ?_
    refine q_bind fun v5 hv5 => ?_
    refine X_op (w := (.val (.bool v5))) (v := (.val (.bool v5))) (E_callX (ds := [.int .i64 v1.a1, .int .i64 v2.a1, .int .i64 v3.a1]) (ids := []) (r := .bool v5) hc26 (by kernel_rfl) ((hs26 v1.a1 v2.a1 v3.a1 _ (by kernel_rfl)).trans (congrArg _ hv5)) (by kernel_rfl)) rfl rfl rfl ?_
    refine X_nil (m := [(29, (.val (.bool v5))), (28, (.val (.int .i64 v3.a1))), (27, (.box [9] 1)), (26, (.val (.int .i64 1))), (25, (.val (.int .i64 v2.a1))), (24, (.box [8] 1)), (23, (.val (.int .i64 1))), (22, (.val (.int .i64 v1.a1))), (21, (.box [7] 1)), (20, (.val (.int .i64 1))), (10, (.val (.int .i64 1))), (19, (.val (.int .i64 1))), (18, (.val (.bool true))), (17, (.val (.int .i64 1))), (30, (.val (.int .i64 1))), (9, (.box [9] 0)), (8, (.box [8] 0)), (7, (.box [7] 0)), (6, (.val (.bool false)))]) (by exact ⟨rfl, rfl, rfl, rfl, rfl, rfl, rfl, rfl, rfl, rfl, rfl, rfl, rfl, rfl, rfl, rfl, rfl, rfl, rfl, trivial⟩) ?_
    refine G_then ?_
    refine G_cond (t := v5) (by kernel_rfl) (fun _ => ?_) (fun _ => ?_)
    · refine G_seq ?_
      refine G_region ?_
      refine G_op [0] (v := (.val (.bool true))) (E_p (by kernel_rfl)) rfl rfl ?_
      refine G_nil ?_
      refine G_then ?_
      refine G_ret ?_
      refine G_inBR ?_
      refine G_thenR ?_
      refine G_thenR ?_
      refine G_inBR ?_
      refine G_thenR ?_
      refine G_retR ?_
      refine q_some fun hA => ?_
      show outV _ _ = some _
      kernel_rfl
    · refine G_skip ?_
      refine G_inB ?_
      refine G_then ?_
      refine G_region ?_
      refine G_op [0] (v := (.val (.int .i64 2))) (E_p (by kernel_rfl)) rfl rfl ?_
      refine G_op [0] (v := (.val (.int .i64 2))) (E_p (by kernel_rfl)) rfl rfl ?_
      refine G_nil ?_
      refine G_then ?_
      refine G_subD (s0 := ⟨⟨31, [(17, (.val (.int .i64 2))), (30, (.val (.int .i64 2))), (29, (.val (.bool v5))), (28, (.val (.int .i64 v3.a1))), (27, (.box [9] 1)), (26, (.val (.int .i64 1))), (25, (.val (.int .i64 v2.a1))), (24, (.box [8] 1)), (23, (.val (.int .i64 1))), (22, (.val (.int .i64 v1.a1))), (21, (.box [7] 1)), (20, (.val (.int .i64 1))), (10, (.val (.int .i64 1))), (19, (.val (.int .i64 1))), (18, (.val (.bool true))), (9, (.box [9] 0)), (8, (.box [8] 0)), (7, (.box [7] 0)), (6, (.val (.bool false)))]⟩, mkH [([7], (.box [(.val (.int .i64 v1.a0)), (.val (.int .i64 v1.a1)), (.val (.int .i64 v1.a2))])), ([8], (.box [(.val (.int .i64 v2.a0)), (.val (.int .i64 v2.a1)), (.val (.int .i64 v2.a2))])), ([9], (.box [(.val (.int .i64 v3.a0)), (.val (.int .i64 v3.a1)), (.val (.int .i64 v3.a2))]))]⟩) (by exact Sub_env ⟨.refl _, .refl _, .refl _, .refl _, .refl _, .refl _, .refl _, .refl _, .refl _, .refl _, .refl _, .refl _, .refl _, .refl _, .refl _, .refl _, .refl _, .refl _, .refl _, trivial⟩) ?_
      refine G_round ?_
      refine G_seq ?_
      refine G_region ?_
      refine G_op [0] (v := (.val (.bool true))) (E_p (by kernel_rfl)) rfl rfl ?_
      refine G_nil ?_
      refine G_then ?_
      refine G_seq ?_
      refine G_condT (by kernel_rfl) ?_
      refine G_skip ?_
      refine G_then ?_
      refine G_seq ?_
      refine G_block ?_
      refine G_seq ?_
      refine G_region ?_
      refine G_op [0] (v := (.val (.int .i64 2))) (E_p (by kernel_rfl)) rfl rfl ?_
      refine G_op [0] (v := (.val (.int .i64 2))) (E_p (by kernel_rfl)) rfl rfl ?_
      refine G_nil ?_
      refine G_then ?_
      refine G_seq ?_
      refine G_draw ?_
      refine X_op (w := (.val (.int .i64 2))) (v := (.val (.int .i64 2))) (E_p (by kernel_rfl)) rfl rfl rfl ?_
      refine X_op (w := (.box [7] 2)) (v := (.box [7] 2)) (E_p (by kernel_rfl)) rfl rfl rfl ?_
      refine X_op (w := (.val (.int .i64 v1.a2))) (v := (.val (.int .i64 v1.a2))) (E_load (by kernel_rfl)) rfl rfl rfl ?_
      refine X_op (w := (.val (.int .i64 2))) (v := (.val (.int .i64 2))) (E_p (by kernel_rfl)) rfl rfl rfl ?_
      refine X_op (w := (.box [8] 2)) (v := (.box [8] 2)) (E_p (by kernel_rfl)) rfl rfl rfl ?_
      refine X_op (w := (.val (.int .i64 v2.a2))) (v := (.val (.int .i64 v2.a2))) (E_load (by kernel_rfl)) rfl rfl rfl ?_
      refine X_op (w := (.val (.int .i64 2))) (v := (.val (.int .i64 2))) (E_p (by kernel_rfl)) rfl rfl rfl ?_
      refine X_op (w := (.box [9] 2)) (v := (.box [9] 2)) (E_p (by kernel_rfl)) rfl rfl rfl ?_
      refine X_op (w := (.val (.int .i64 v3.a2))) (v := (.val (.int .i64 v3.a2))) (E_load (by kernel_rfl)) rfl rfl rfl ?_
      refine q_bind fun v6 hv6 => ?_
      refine X_op (w := (.val (.bool v6))) (v := (.val (.bool v6))) (E_callX (ds := [.int .i64 v1.a2, .int .i64 v2.a2, .int .i64 v3.a2]) (ids := []) (r := .bool v6) hc26 (by kernel_rfl) ((hs26 v1.a2 v2.a2 v3.a2 _ (by kernel_rfl)).trans (congrArg _ hv6)) (by kernel_rfl)) rfl rfl rfl ?_
      refine X_nil (m := [(29, (.val (.bool v6))), (28, (.val (.int .i64 v3.a2))), (27, (.box [9] 2)), (26, (.val (.int .i64 2))), (25, (.val (.int .i64 v2.a2))), (24, (.box [8] 2)), (23, (.val (.int .i64 2))), (22, (.val (.int .i64 v1.a2))), (21, (.box [7] 2)), (20, (.val (.int .i64 2))), (10, (.val (.int .i64 2))), (19, (.val (.int .i64 2))), (18, (.val (.bool true))), (17, (.val (.int .i64 2))), (30, (.val (.int .i64 2))), (9, (.box [9] 0)), (8, (.box [8] 0)), (7, (.box [7] 0)), (6, (.val (.bool false)))]) (by exact ⟨rfl, rfl, rfl, rfl, rfl, rfl, rfl, rfl, rfl, rfl, rfl, rfl, rfl, rfl, rfl, rfl, rfl, rfl, rfl, trivial⟩) ?_
      refine G_then ?_
      refine G_cond (t := v6) (by kernel_rfl) (fun _ => ?_) (fun _ => ?_)
      · refine G_seq ?_
        refine G_region ?_
        refine G_op [0] (v := (.val (.bool true))) (E_p (by kernel_rfl)) rfl rfl ?_
        refine G_nil ?_
        refine G_then ?_
        refine G_ret ?_
        refine G_inBR ?_
        refine G_thenR ?_
        refine G_thenR ?_
        refine G_inBR ?_
        refine G_thenR ?_
        refine G_retR ?_
        refine q_some fun hA => ?_
        show outV _ _ = some _
        kernel_rfl
      · refine G_skip ?_
        refine G_inB ?_
        refine G_then ?_
        refine G_region ?_
        refine G_op [0] (v := (.val (.int .i64 3))) (E_p (by kernel_rfl)) rfl rfl ?_
        refine G_op [0] (v := (.val (.int .i64 3))) (E_p (by kernel_rfl)) rfl rfl ?_
        refine G_nil ?_
        refine G_then ?_
        refine G_subD (s0 := ⟨⟨31, [(17, (.val (.int .i64 3))), (30, (.val (.int .i64 3))), (29, (.val (.bool v6))), (28, (.val (.int .i64 v3.a2))), (27, (.box [9] 2)), (26, (.val (.int .i64 2))), (25, (.val (.int .i64 v2.a2))), (24, (.box [8] 2)), (23, (.val (.int .i64 2))), (22, (.val (.int .i64 v1.a2))), (21, (.box [7] 2)), (20, (.val (.int .i64 2))), (10, (.val (.int .i64 2))), (19, (.val (.int .i64 2))), (18, (.val (.bool true))), (9, (.box [9] 0)), (8, (.box [8] 0)), (7, (.box [7] 0)), (6, (.val (.bool false)))]⟩, mkH [([7], (.box [(.val (.int .i64 v1.a0)), (.val (.int .i64 v1.a1)), (.val (.int .i64 v1.a2))])), ([8], (.box [(.val (.int .i64 v2.a0)), (.val (.int .i64 v2.a1)), (.val (.int .i64 v2.a2))])), ([9], (.box [(.val (.int .i64 v3.a0)), (.val (.int .i64 v3.a1)), (.val (.int .i64 v3.a2))]))]⟩) (by exact Sub_env ⟨.refl _, .refl _, .refl _, .refl _, .refl _, .refl _, .refl _, .refl _, .refl _, .refl _, .refl _, .refl _, .refl _, .refl _, .refl _, .refl _, .refl _, .refl _, .refl _, trivial⟩) ?_
        refine G_round ?_
        refine G_seq ?_
        refine G_region ?_
        refine G_op [0] (v := (.val (.bool false))) (E_p (by kernel_rfl)) rfl rfl ?_
        refine G_nil ?_
        refine G_then ?_
        refine G_seq ?_
        refine G_condF (by kernel_rfl) ?_
        refine G_exit ?_
        refine G_thenX ?_
        refine G_thenX ?_
        refine G_inBX ?_
        refine G_then ?_
        refine G_subW (s0 := ⟨⟨31, [(6, (.val (.bool false)))]⟩, mkH []⟩) (by exact Sub_keep ⟨.refl _, trivial⟩ trivial (by kernel_rfl) (by kernel_rfl)) ?_
        refine G_seq ?_
        refine G_region ?_
        refine G_op [0] (v := (.val (.bool false))) (E_p (by kernel_rfl)) rfl rfl ?_
        refine G_nil ?_
        refine G_then ?_
        refine G_ret ?_
        refine G_retR ?_
        refine q_some fun hA => ?_
        show outV _ _ = some _
        kernel_rfl
theorem s24 (x0 : ExpoT) (x1 : ExpoT) (x2 : ExpoT) (ds : List DV) (hd : List.map z1 ds = List.map z1 [.agg (e_ExpoT x0), .agg (e_ExpoT x1), .agg (e_ExpoT x2)]) : sp24 ds = (g_limit_Against x0 x1 x2).map fun r => .bool r :=
  specT_at (ea := fun (a : ExpoT × ExpoT × ExpoT) => [.agg (e_ExpoT a.1), .agg (e_ExpoT a.2.1), .agg (e_ExpoT a.2.2)]) (eb := fun (r : Bool) => .bool r) (g := fun (a : ExpoT × ExpoT × ExpoT) => g_limit_Against a.1 a.2.1 a.2.2) inj24 (x0, x1, x2) hd

def t28_1 : List AIns := (⟨(some 4), (.p (.mv (.t 23))), none⟩ :: [])
def t28_0 : List AIns := (⟨(some 17), (.p (.mv (.t 16))), none⟩ :: ⟨(some 18), (.p (.foff 2 (.t 3))), (some (17, false))⟩ :: ⟨(some 19), (.r (.load 1 false (.t 18))), (some (17, false))⟩ :: ⟨(some 20), (.p (.foff 2 (.t 2))), (some (17, false))⟩ :: ⟨(some 21), (.r (.load 1 false (.t 20))), (some (17, false))⟩ :: ⟨(some 22), (.p (.bin .lss (.t 19) (.t 21))), (some (17, false))⟩ :: ⟨(some 23), (.p (.pick (.t 17) (.c (.bool true)) (.t 22))), none⟩ :: t28_1)
def k28_0 : ACode := (.region (⟨(some 5), (.p (.foff 0 (.t 3))), none⟩ :: ⟨(some 6), (.r (.load 1 false (.t 5))), none⟩ :: ⟨(some 7), (.p (.foff 0 (.t 2))), none⟩ :: ⟨(some 8), (.r (.load 1 false (.t 7))), none⟩ :: ⟨(some 9), (.p (.bin .lss (.t 6) (.t 8))), none⟩ :: ⟨(some 10), (.p (.mv (.t 9))), none⟩ :: ⟨(some 11), (.p (.foff 1 (.t 3))), (some (10, false))⟩ :: ⟨(some 12), (.r (.load 1 false (.t 11))), (some (10, false))⟩ :: ⟨(some 13), (.p (.foff 1 (.t 2))), (some (10, false))⟩ :: ⟨(some 14), (.r (.load 1 false (.t 13))), (some (10, false))⟩ :: ⟨(some 15), (.p (.bin .lss (.t 12) (.t 14))), (some (10, false))⟩ :: ⟨(some 16), (.p (.pick (.t 10) (.c (.bool true)) (.t 15))), none⟩ :: t28_0))
def k28_1 : ACode := (.seq k28_0 .ret)
def cd28 : ACode := (.seq (.region (⟨(some 2), (.a (.bx (.t 0))), none⟩ :: ⟨(some 3), (.a (.bx (.t 1))), none⟩ :: ⟨(some 4), (.p (.mv (.c (.bool false)))), none⟩ :: [])) k28_1)
def rs28 : List ARes := [(.tmp 4)]
def af28 : AFn := ⟨cd28, rs28, 24⟩
theorem c28 : compF Try.prog 28 = some af28 := by kernel_rfl
noncomputable def g_limit_Lowers (p_was : ExpoT) (p_now : ExpoT) : Option Bool := (some (((decide (p_now.Long < p_was.Long)) || (decide (p_now.Short < p_was.Short))) || (decide (p_now.Open < p_was.Open))))
noncomputable def sp28 : List DV → Option DV := specT (fun (a : ExpoT × ExpoT) => [.agg (e_ExpoT a.1), .agg (e_ExpoT a.2)]) (fun (r : Bool) => .bool r) (fun (a : ExpoT × ExpoT) => g_limit_Lowers a.1 a.2)
theorem inj28 : ∀ (a b : ExpoT × ExpoT), List.map z1 ((fun (a : ExpoT × ExpoT) => [.agg (e_ExpoT a.1), .agg (e_ExpoT a.2)]) a) = List.map z1 ((fun (a : ExpoT × ExpoT) => [.agg (e_ExpoT a.1), .agg (e_ExpoT a.2)]) b) → a = b := by
  rintro ⟨a0, a1⟩ ⟨b0, b1⟩ h
  simp only [List.map_cons, List.map_nil, List.cons.injEq, and_true] at h
  obtain ⟨h0, h1⟩ := h
  exact (pair_eq (e_ExpoT_inj (DV.agg.inj h0)) (e_ExpoT_inj (DV.agg.inj h1)))
set_option maxHeartbeats 1000000 in
theorem w28 {C : FuncId → Con} (hC : ConOk Try.prog C) : ValOk Try.prog 28 sp28 := by
  refine valT_of hC c28 _ _ _ inj28 ?_
  rintro ⟨p_was, p_now⟩
  show Imq (g_limit_Lowers p_was p_now) (fun _ => True) fun r => WP Try.prog C (fun _ => False) cd28 (retQ fun s => outV s rs28 = some (.bool r)) ⟨⟨24, [(0, (.val (.agg [(.int .i64 p_was.Long), (.int .i64 p_was.Short), (.int .i64 p_was.Open)]))), (1, (.val (.agg [(.int .i64 p_now.Long), (.int .i64 p_now.Short), (.int .i64 p_now.Open)])))]⟩, mkH []⟩
  unfold g_limit_Lowers
  refine G_seq ?_
  refine G_region ?_
  refine G_op [1001] (v := (.box [1001] 0)) (E_a (u := (.box [1001] 0)) (b := (.box [(.val (.int .i64 p_was.Long)), (.val (.int .i64 p_was.Short)), (.val (.int .i64 p_was.Open))])) (h' := [([1001], (.box [(.val (.int .i64 p_was.Long)), (.val (.int .i64 p_was.Short)), (.val (.int .i64 p_was.Open))]))]) (by kernel_rfl) (by kernel_rfl) (by kernel_rfl)) rfl rfl ?_
  refine G_op [1002] (v := (.box [1002] 0)) (E_a (u := (.box [1002] 0)) (b := (.box [(.val (.int .i64 p_now.Long)), (.val (.int .i64 p_now.Short)), (.val (.int .i64 p_now.Open))])) (h' := [([1001], (.box [(.val (.int .i64 p_was.Long)), (.val (.int .i64 p_was.Short)), (.val (.int .i64 p_was.Open))])), ([1002], (.box [(.val (.int .i64 p_now.Long)), (.val (.int .i64 p_now.Short)), (.val (.int .i64 p_now.Open))]))]) (by kernel_rfl) (by kernel_rfl) (by kernel_rfl)) rfl rfl ?_
  refine G_op [0] (v := (.val (.bool false))) (E_p (by kernel_rfl)) rfl rfl ?_
  refine G_nil ?_
  refine G_then ?_
  refine G_seq ?_
  refine G_region ?_
  refine G_op [0] (v := (.box [1002] 0)) (E_p (by kernel_rfl)) rfl rfl ?_
  refine G_op [0] (v := (.val (.int .i64 p_now.Long))) (E_load (by kernel_rfl)) rfl rfl ?_
  refine G_op [0] (v := (.box [1001] 0)) (E_p (by kernel_rfl)) rfl rfl ?_
  refine G_op [0] (v := (.val (.int .i64 p_was.Long))) (E_load (by kernel_rfl)) rfl rfl ?_
  refine G_op [0] (v := (.val (.bool (decide (p_now.Long < p_was.Long))))) (E_p (by kernel_rfl)) rfl rfl ?_
  refine G_op [0] (v := (.val (.bool (decide (p_now.Long < p_was.Long))))) (E_p (by kernel_rfl)) rfl rfl ?_
  refine G_pure (l := t28_0) (st := ⟨⟨24, [(16, (.val (.bool ((decide (p_now.Long < p_was.Long)) || (decide (p_now.Short < p_was.Short)))))), (4, (.val (.bool false))), (3, (.box [1002] 0)), (2, (.box [1001] 0))]⟩, mkH [([1001], (.box [(.val (.int .i64 p_was.Long)), (.val (.int .i64 p_was.Short)), (.val (.int .i64 p_was.Open))])), ([1002], (.box [(.val (.int .i64 p_now.Long)), (.val (.int .i64 p_now.Short)), (.val (.int .i64 p_now.Open))]))]⟩) ?_ (fun r3 => ?_)
  · refine G_op [0] (v := (.val (.bool ((decide (p_now.Long < p_was.Long)) || (decide (p_now.Short < p_was.Short)))))) (E_p (by kernel_rfl)) rfl rfl ?_
    refine G_pure (l := t28_1) (st := ⟨⟨24, [(23, (.val (.bool (((decide (p_now.Long < p_was.Long)) || (decide (p_now.Short < p_was.Short))) || (decide (p_now.Open < p_was.Open)))))), (4, (.val (.bool false)))]⟩, mkH []⟩) ?_ (fun r6 => ?_)
    · refine G_op [0] (v := (.val (.bool (((decide (p_now.Long < p_was.Long)) || (decide (p_now.Short < p_was.Short))) || (decide (p_now.Open < p_was.Open)))))) (E_p (by kernel_rfl)) rfl rfl ?_
      refine G_nil ?_
      refine G_then ?_
      refine G_ret ?_
      refine G_retR ?_
      refine q_some fun hA => ?_
      show outV _ _ = some _
      kernel_rfl
    · refine q_two ((decide (p_now.Long < p_was.Long)) || (decide (p_now.Short < p_was.Short))) (fun h4 => ?_) (fun h4 => ?_)
      · refine G_subR (Sub_lit (t := 17) (v := true) rfl h4) ?_
        refine G_off rfl rfl ?_
        refine G_off rfl rfl ?_
        refine G_off rfl rfl ?_
        refine G_off rfl rfl ?_
        refine G_off rfl rfl ?_
        refine G_op [0] (v := (.val (.bool true))) (E_p (by kernel_rfl)) rfl rfl ?_
        exact q_some fun h => RP_sub (by exact Sub_keep ⟨(Wk_or1 h4), .refl _, trivial⟩ trivial (by kernel_rfl) (by kernel_rfl)) h
      · refine G_subR (Sub_lit (t := 17) (v := false) rfl h4) ?_
        refine G_op [0] (v := (.box [1002] 2)) (E_p (by kernel_rfl)) rfl rfl ?_
        refine G_op [0] (v := (.val (.int .i64 p_now.Open))) (E_load (by kernel_rfl)) rfl rfl ?_
        refine G_op [0] (v := (.box [1001] 2)) (E_p (by kernel_rfl)) rfl rfl ?_
        refine G_op [0] (v := (.val (.int .i64 p_was.Open))) (E_load (by kernel_rfl)) rfl rfl ?_
        refine G_op [0] (v := (.val (.bool (decide (p_now.Open < p_was.Open))))) (E_p (by kernel_rfl)) rfl rfl ?_
        refine G_op [0] (v := (.val (.bool (decide (p_now.Open < p_was.Open))))) (E_p (by kernel_rfl)) rfl rfl ?_
        exact q_some fun h => RP_sub (by exact Sub_keep ⟨(Wk_or0 h4), .refl _, trivial⟩ trivial (by kernel_rfl) (by kernel_rfl)) h
  · refine q_two (decide (p_now.Long < p_was.Long)) (fun h1 => ?_) (fun h1 => ?_)
    · refine G_subR (Sub_lit (t := 10) (v := true) rfl h1) ?_
      refine G_off rfl rfl ?_
      refine G_off rfl rfl ?_
      refine G_off rfl rfl ?_
      refine G_off rfl rfl ?_
      refine G_off rfl rfl ?_
      refine G_op [0] (v := (.val (.bool true))) (E_p (by kernel_rfl)) rfl rfl ?_
      exact q_some fun h => RP_sub (by exact Sub_env ⟨(Wk_or1 h1), .refl _, .refl _, .refl _, trivial⟩) h
    · refine G_subR (Sub_lit (t := 10) (v := false) rfl h1) ?_
      refine G_op [0] (v := (.box [1002] 1)) (E_p (by kernel_rfl)) rfl rfl ?_
      refine G_op [0] (v := (.val (.int .i64 p_now.Short))) (E_load (by kernel_rfl)) rfl rfl ?_
      refine G_op [0] (v := (.box [1001] 1)) (E_p (by kernel_rfl)) rfl rfl ?_
      refine G_op [0] (v := (.val (.int .i64 p_was.Short))) (E_load (by kernel_rfl)) rfl rfl ?_
      refine G_op [0] (v := (.val (.bool (decide (p_now.Short < p_was.Short))))) (E_p (by kernel_rfl)) rfl rfl ?_
      refine G_op [0] (v := (.val (.bool (decide (p_now.Short < p_was.Short))))) (E_p (by kernel_rfl)) rfl rfl ?_
      exact q_some fun h => RP_sub (by exact Sub_env ⟨(Wk_or0 h1), .refl _, .refl _, .refl _, trivial⟩) h
theorem s28 (x0 : ExpoT) (x1 : ExpoT) (ds : List DV) (hd : List.map z1 ds = List.map z1 [.agg (e_ExpoT x0), .agg (e_ExpoT x1)]) : sp28 ds = (g_limit_Lowers x0 x1).map fun r => .bool r :=
  specT_at (ea := fun (a : ExpoT × ExpoT) => [.agg (e_ExpoT a.1), .agg (e_ExpoT a.2)]) (eb := fun (r : Bool) => .bool r) (g := fun (a : ExpoT × ExpoT) => g_limit_Lowers a.1 a.2) inj28 (x0, x1) hd

def t19_6 : List AIns := (⟨(some 0), (.p (.mv (.t 47))), none⟩ :: [])
def t19_5 : List AIns := (⟨(some 43), (.p (.mv (.t 42))), none⟩ :: ⟨(some 44), (.p (.build [(.int .i64 0), (.int .i64 0), (.int .i64 0)] [(2, (1, (.c (.int .i64 (-1)))))])), (some (43, true))⟩ :: ⟨(some 45), (.r (.call 22 [(.t 44)])), (some (43, true))⟩ :: ⟨(some 46), (.p (.un .not (.t 45))), (some (43, true))⟩ :: ⟨(some 47), (.p (.pick (.t 43) (.t 46) (.c (.bool false)))), none⟩ :: t19_6)
def t19_4 : List AIns := (⟨(some 38), (.p (.mv (.t 37))), none⟩ :: ⟨(some 39), (.r (.load 3 true (.t 1))), (some (38, true))⟩ :: ⟨(some 40), (.p (.build [(.int .i64 0), (.int .i64 0), (.int .i64 0)] [(0, (1, (.c (.int .i64 9)))), (1, (1, (.c (.int .i64 9))))])), (some (38, true))⟩ :: ⟨(some 41), (.r (.call 28 [(.t 39), (.t 40)])), (some (38, true))⟩ :: ⟨(some 42), (.p (.pick (.t 38) (.t 41) (.c (.bool false)))), none⟩ :: t19_5)
def t19_3 : List AIns := (⟨(some 34), (.p (.mv (.t 33))), none⟩ :: ⟨(some 35), (.p (.mv (.t 3))), (some (34, true))⟩ :: ⟨(some 36), (.p (.bin .eql (.t 35) (.c (.int .i64 0)))), (some (34, true))⟩ :: ⟨(some 37), (.p (.pick (.t 34) (.t 36) (.c (.bool false)))), none⟩ :: t19_4)
def t19_2 : List AIns := (⟨(some 30), (.p (.mv (.t 29))), none⟩ :: ⟨(some 31), (.p (.mv (.t 2))), (some (30, true))⟩ :: ⟨(some 32), (.p (.bin .eql (.t 31) (.c (.int .i64 7)))), (some (30, true))⟩ :: ⟨(some 33), (.p (.pick (.t 30) (.t 32) (.c (.bool false)))), none⟩ :: t19_3)
def t19_1 : List AIns := (⟨(some 27), (.p (.mv (.t 26))), none⟩ :: ⟨(some 28), (.r (.call 26 [(.c (.int .i64 0)), (.c (.int .i64 6)), (.c (.int .i64 5))])), (some (27, true))⟩ :: ⟨(some 29), (.p (.pick (.t 27) (.t 28) (.c (.bool false)))), none⟩ :: t19_2)
def t19_0 : List AIns := (⟨(some 20), (.p (.mv (.t 19))), none⟩ :: ⟨(some 21), (.p (.build [(.int .i64 0), (.int .i64 0), (.int .i64 0)] [(0, (1, (.c (.int .i64 7))))])), (some (20, true))⟩ :: ⟨(some 22), (.p (.build [(.int .i64 0), (.int .i64 0), (.int .i64 0)] [(0, (1, (.c (.int .i64 6))))])), (some (20, true))⟩ :: ⟨(some 23), (.r (.load 3 true (.t 1))), (some (20, true))⟩ :: ⟨(some 24), (.r (.call 24 [(.t 21), (.t 22), (.t 23)])), (some (20, true))⟩ :: ⟨(some 25), (.p (.un .not (.t 24))), (some (20, true))⟩ :: ⟨(some 26), (.p (.pick (.t 20) (.t 25) (.c (.bool false)))), none⟩ :: t19_1)
def k19_0 : ACode := (.region (⟨(some 6), (.p (.build [(.int .i64 0), (.int .i64 0), (.int .i64 0), (.int .i64 0)] [(3, (1, (.c (.int .i64 3))))])), none⟩ :: ⟨(some 7), (.p (.build [(.int .i64 0), (.int .i64 0), (.int .i64 0), (.int .i64 0)] [(3, (1, (.c (.int .i64 4))))])), none⟩ :: ⟨(some 8), (.a (.bsl 4 2 [(.int .i64 0), (.int .i64 0), (.int .i64 0), (.int .i64 0)] [(0, (.t 6)), (1, (.t 7))])), none⟩ :: ⟨(some 9), (.r (.call 20 [(.t 8)])), none⟩ :: ⟨(some 5), (.p (.mv (.t 9))), none⟩ :: ⟨(some 10), (.p (.ext (.t 5) 0)), none⟩ :: ⟨(some 11), (.p (.ext (.t 5) 1)), none⟩ :: ⟨(some 2), (.p (.mv (.t 10))), none⟩ :: ⟨(some 3), (.p (.mv (.t 11))), none⟩ :: []))
def k19_1 : ACode := (.region (⟨(some 12), (.r (.load 3 true (.t 1))), none⟩ :: ⟨(some 13), (.r (.call 22 [(.t 12)])), none⟩ :: ⟨(some 14), (.p (.mv (.t 13))), none⟩ :: ⟨(some 15), (.p (.build [(.int .i64 0), (.int .i64 0), (.int .i64 0)] [(0, (1, (.c (.int .i64 5))))])), (some (14, true))⟩ :: ⟨(some 16), (.p (.build [(.int .i64 0), (.int .i64 0), (.int .i64 0)] [(0, (1, (.c (.int .i64 6))))])), (some (14, true))⟩ :: ⟨(some 17), (.r (.load 3 true (.t 1))), (some (14, true))⟩ :: ⟨(some 18), (.r (.call 24 [(.t 15), (.t 16), (.t 17)])), (some (14, true))⟩ :: ⟨(some 19), (.p (.pick (.t 14) (.t 18) (.c (.bool false)))), none⟩ :: t19_0))
def k19_2 : ACode := (.seq k19_1 .ret)
def k19_3 : ACode := (.seq k19_0 k19_2)
def k19_4 : ACode := (.seq (.region (⟨(some 4), (.p (.build [(.int .i64 0), (.int .i64 0), (.int .i64 0)] [(0, (1, (.c (.int .i64 5)))), (1, (1, (.c (.int .i64 5)))), (2, (1, (.c (.int .i64 5))))])), none⟩ :: ⟨(some 1), (.a (.alloc [(.int .i64 0), (.int .i64 0), (.int .i64 0)])), none⟩ :: ⟨none, (.w (.store 3 (.t 1) (.t 4))), none⟩ :: [])) k19_3)
def cd19 : ACode := (.seq (.region (⟨(some 0), (.p (.mv (.c (.bool false)))), none⟩ :: [])) k19_4)
def rs19 : List ARes := [(.tmp 0)]
def af19 : AFn := ⟨cd19, rs19, 48⟩
theorem c19 : compF Try.prog 19 = some af19 := by kernel_rfl
noncomputable def g_snafflelaw09_awake : Option Bool := (Option.bind (g_limit_Whole [(CellT.mk 0 0 0 3), (CellT.mk 0 0 0 4)]) fun v1 => (Option.bind (g_limit_Right (ExpoT.mk 5 5 5)) fun v2 => (Option.bind (bif v2 then (Option.bind (g_limit_Against (ExpoT.mk 5 0 0) (ExpoT.mk 6 0 0) (ExpoT.mk 5 5 5)) fun v28 => (some v28)) else (some false)) fun (b4 : Bool) => (Option.bind (bif b4 then (Option.bind (g_limit_Against (ExpoT.mk 7 0 0) (ExpoT.mk 6 0 0) (ExpoT.mk 5 5 5)) fun v27 => (some (!v27))) else (some false)) fun (b7 : Bool) => (Option.bind (bif b7 then (Option.bind (g_limit_AgainstCap 0 6 5) fun v26 => (some v26)) else (some false)) fun (b10 : Bool) => (Option.bind (bif ((b10 && (v1.1 == 7)) && (v1.2 == 0)) then (Option.bind (g_limit_Lowers (ExpoT.mk 5 5 5) (ExpoT.mk 9 9 0)) fun v25 => (some v25)) else (some false)) fun (b19 : Bool) => (Option.bind (bif b19 then (Option.bind (g_limit_Right (ExpoT.mk 0 0 (-1))) fun v24 => (some (!v24))) else (some false)) fun (b22 : Bool) => (some b22))))))))
noncomputable def sp19 : List DV → Option DV := specT (fun (_ : Unit) => []) (fun (r : Bool) => .bool r) (fun (_ : Unit) => g_snafflelaw09_awake)
theorem inj19 (a b : Unit) (_ : List.map z1 ((fun (_ : Unit) => []) a) = List.map z1 ((fun (_ : Unit) => []) b)) : a = b := rfl
set_option maxHeartbeats 1000000 in
theorem w19 {C : FuncId → Con} (hC : ConOk Try.prog C) {q20 : List DV → Option DV} (hc20 : C 20 = .val q20) (hs20 : ∀ (x0 : (List CellT)) (ds : List DV), List.map z1 ds = List.map z1 [.sl 4 (List.map e_CellT x0)] → q20 ds = (g_limit_Whole x0).map fun r => .tup [.int .i64 r.1, .int .i64 r.2]) {q22 : List DV → Option DV} (hc22 : C 22 = .val q22) (hs22 : ∀ (x0 : ExpoT) (ds : List DV), List.map z1 ds = List.map z1 [.agg (e_ExpoT x0)] → q22 ds = (g_limit_Right x0).map fun r => .bool r) {q24 : List DV → Option DV} (hc24 : C 24 = .val q24) (hs24 : ∀ (x0 : ExpoT) (x1 : ExpoT) (x2 : ExpoT) (ds : List DV), List.map z1 ds = List.map z1 [.agg (e_ExpoT x0), .agg (e_ExpoT x1), .agg (e_ExpoT x2)] → q24 ds = (g_limit_Against x0 x1 x2).map fun r => .bool r) {q26 : List DV → Option DV} (hc26 : C 26 = .val q26) (hs26 : ∀ (x0 : Int) (x1 : Int) (x2 : Int) (ds : List DV), List.map z1 ds = List.map z1 [.int .i64 x0, .int .i64 x1, .int .i64 x2] → q26 ds = (g_limit_AgainstCap x0 x1 x2).map fun r => .bool r) {q28 : List DV → Option DV} (hc28 : C 28 = .val q28) (hs28 : ∀ (x0 : ExpoT) (x1 : ExpoT) (ds : List DV), List.map z1 ds = List.map z1 [.agg (e_ExpoT x0), .agg (e_ExpoT x1)] → q28 ds = (g_limit_Lowers x0 x1).map fun r => .bool r) : ValOk Try.prog 19 sp19 := by
  refine valT_of hC c19 _ _ _ inj19 ?_
  rintro ⟨⟩
  show Imq (g_snafflelaw09_awake) (fun _ => True) fun r => WP Try.prog C (fun _ => False) cd19 (retQ fun s => outV s rs19 = some (.bool r)) ⟨⟨48, []⟩, mkH []⟩
  unfold g_snafflelaw09_awake
  refine G_seq ?_
  refine G_region ?_
  refine G_op [0] (v := (.val (.bool false))) (E_p (by kernel_rfl)) rfl rfl ?_
  refine G_nil ?_
  refine G_then ?_
  refine G_seq ?_
  refine G_region ?_
  refine G_op [0] (v := (.agg [(.val (.int .i64 5)), (.val (.int .i64 5)), (.val (.int .i64 5))])) (E_p (by kernel_rfl)) rfl rfl ?_
  refine G_op [1001] (v := (.box [1001] 0)) (E_a (u := (.box [1001] 0)) (b := (.box [(.val (.int .i64 0)), (.val (.int .i64 0)), (.val (.int .i64 0))])) (h' := [([1001], (.box [(.val (.int .i64 0)), (.val (.int .i64 0)), (.val (.int .i64 0))]))]) (by kernel_rfl) (by kernel_rfl) (by kernel_rfl)) rfl rfl ?_
  refine G_op0 [0] (v := (.val (.tup []))) (E_store (b := [1001]) (o := 0) (cs := [(.val (.int .i64 5)), (.val (.int .i64 5)), (.val (.int .i64 5))]) (cells := [(.val (.int .i64 0)), (.val (.int .i64 0)), (.val (.int .i64 0))]) (cells' := [(.val (.int .i64 5)), (.val (.int .i64 5)), (.val (.int .i64 5))]) (h' := [([1001], (.box [(.val (.int .i64 5)), (.val (.int .i64 5)), (.val (.int .i64 5))]))]) (by kernel_rfl) (by kernel_rfl) (by kernel_rfl) rfl (by kernel_rfl) (by kernel_rfl) (by kernel_rfl) (by kernel_rfl)) rfl ?_
  refine G_nil ?_
  refine G_then ?_
  refine G_seq ?_
  refine G_region ?_
  refine G_op [0] (v := (.agg [(.val (.int .i64 0)), (.val (.int .i64 0)), (.val (.int .i64 0)), (.val (.int .i64 3))])) (E_p (by kernel_rfl)) rfl rfl ?_
  refine G_op [0] (v := (.agg [(.val (.int .i64 0)), (.val (.int .i64 0)), (.val (.int .i64 0)), (.val (.int .i64 4))])) (E_p (by kernel_rfl)) rfl rfl ?_
  refine G_op [1002] (v := (.row [1002] 4 0 2)) (E_a (u := (.row [1002] 4 0 2)) (b := (.row 4 (List.map e_CellT [(CellT.mk 0 0 0 3), (CellT.mk 0 0 0 4)]))) (h' := [([1001], (.box [(.val (.int .i64 5)), (.val (.int .i64 5)), (.val (.int .i64 5))])), ([1002], (.row 4 (List.map e_CellT [(CellT.mk 0 0 0 3), (CellT.mk 0 0 0 4)])))]) (by kernel_rfl) (by kernel_rfl) (by kernel_rfl)) rfl rfl ?_
  refine q_bind fun v1 hv1 => ?_
  refine G_op [0] (v := (.val (.tup [(.int .i64 v1.1), (.int .i64 v1.2)]))) (E_callF (ds := [.sl 4 (List.map e_CellT [(CellT.mk 0 0 0 3), (CellT.mk 0 0 0 4)])]) (ids := [[1002]]) (r := .tup [.int .i64 v1.1, .int .i64 v1.2]) hc20 (A_cons (A_row (xs := [(CellT.mk 0 0 0 3), (CellT.mk 0 0 0 4)]) (e := e_CellT) (by kernel_rfl) (by first | rfl | simp)) A_nil) ((hs20 [(CellT.mk 0 0 0 3), (CellT.mk 0 0 0 4)] _ (by kernel_rfl)).trans (congrArg _ hv1)) (by kernel_rfl)) rfl rfl ?_
  refine G_op [0] (v := (.val (.tup [(.int .i64 v1.1), (.int .i64 v1.2)]))) (E_p (by kernel_rfl)) rfl rfl ?_
  refine G_op [0] (v := (.val (.int .i64 v1.1))) (E_p (by kernel_rfl)) rfl rfl ?_
  refine G_op [0] (v := (.val (.int .i64 v1.2))) (E_p (by kernel_rfl)) rfl rfl ?_
  refine G_op [0] (v := (.val (.int .i64 v1.1))) (E_p (by kernel_rfl)) rfl rfl ?_
  refine G_op [0] (v := (.val (.int .i64 v1.2))) (E_p (by kernel_rfl)) rfl rfl ?_
  refine G_nil ?_
  refine G_then ?_
  refine G_seq ?_
  refine G_region ?_
  refine G_op [0] (v := (.agg [(.val (.int .i64 5)), (.val (.int .i64 5)), (.val (.int .i64 5))])) (E_load (by kernel_rfl)) rfl rfl ?_
  refine q_bind fun v2 hv2 => ?_
  refine G_op [0] (v := (.val (.bool v2))) (E_call (ds := [.agg (e_ExpoT (ExpoT.mk 5 5 5))]) (r := .bool v2) hc22 (by kernel_rfl) ((hs22 (ExpoT.mk 5 5 5) _ (by kernel_rfl)).trans (congrArg _ hv2))) rfl rfl ?_
  refine G_op [0] (v := (.val (.bool v2))) (E_p (by kernel_rfl)) rfl rfl ?_
  refine G_joinR (l := t19_0) (st := fun (b4 : Bool) => ⟨⟨48, [(19, (.val (.bool b4))), (3, (.val (.int .i64 v1.2))), (2, (.val (.int .i64 v1.1))), (1, (.box [1001] 0)), (0, (.val (.bool false)))]⟩, mkH [([1001], (.box [(.val (.int .i64 5)), (.val (.int .i64 5)), (.val (.int .i64 5))]))]⟩) (fun b4 => ?_) (fun r5 hr5 => ?_)
  · refine G_op [0] (v := (.val (.bool b4))) (E_p (by kernel_rfl)) rfl rfl ?_
    refine G_joinR (l := t19_1) (st := fun (b7 : Bool) => ⟨⟨48, [(26, (.val (.bool b7))), (3, (.val (.int .i64 v1.2))), (2, (.val (.int .i64 v1.1))), (1, (.box [1001] 0)), (0, (.val (.bool false)))]⟩, mkH [([1001], (.box [(.val (.int .i64 5)), (.val (.int .i64 5)), (.val (.int .i64 5))]))]⟩) (fun b7 => ?_) (fun r8 hr8 => ?_)
    · refine G_op [0] (v := (.val (.bool b7))) (E_p (by kernel_rfl)) rfl rfl ?_
      refine G_joinR (l := t19_2) (st := fun (b10 : Bool) => ⟨⟨48, [(29, (.val (.bool b10))), (3, (.val (.int .i64 v1.2))), (2, (.val (.int .i64 v1.1))), (1, (.box [1001] 0)), (0, (.val (.bool false)))]⟩, mkH [([1001], (.box [(.val (.int .i64 5)), (.val (.int .i64 5)), (.val (.int .i64 5))]))]⟩) (fun b10 => ?_) (fun r11 hr11 => ?_)
      · refine G_op [0] (v := (.val (.bool b10))) (E_p (by kernel_rfl)) rfl rfl ?_
        refine G_pure (l := t19_3) (st := ⟨⟨48, [(33, (.val (.bool (b10 && (v1.1 == 7))))), (3, (.val (.int .i64 v1.2))), (1, (.box [1001] 0)), (0, (.val (.bool false)))]⟩, mkH [([1001], (.box [(.val (.int .i64 5)), (.val (.int .i64 5)), (.val (.int .i64 5))]))]⟩) ?_ (fun r14 => ?_)
        · refine G_op [0] (v := (.val (.bool (b10 && (v1.1 == 7))))) (E_p (by kernel_rfl)) rfl rfl ?_
          refine G_pure (l := t19_4) (st := ⟨⟨48, [(37, (.val (.bool ((b10 && (v1.1 == 7)) && (v1.2 == 0))))), (1, (.box [1001] 0)), (0, (.val (.bool false)))]⟩, mkH [([1001], (.box [(.val (.int .i64 5)), (.val (.int .i64 5)), (.val (.int .i64 5))]))]⟩) ?_ (fun r17 => ?_)
          · refine G_op [0] (v := (.val (.bool ((b10 && (v1.1 == 7)) && (v1.2 == 0))))) (E_p (by kernel_rfl)) rfl rfl ?_
            refine G_joinR (l := t19_5) (st := fun (b19 : Bool) => ⟨⟨48, [(42, (.val (.bool b19))), (0, (.val (.bool false)))]⟩, mkH []⟩) (fun b19 => ?_) (fun r20 hr20 => ?_)
            · refine G_op [0] (v := (.val (.bool b19))) (E_p (by kernel_rfl)) rfl rfl ?_
              refine G_joinR (l := t19_6) (st := fun (b22 : Bool) => ⟨⟨48, [(47, (.val (.bool b22))), (0, (.val (.bool false)))]⟩, mkH []⟩) (fun b22 => ?_) (fun r23 hr23 => ?_)
              · refine G_op [0] (v := (.val (.bool b22))) (E_p (by kernel_rfl)) rfl rfl ?_
                refine G_nil ?_
                refine G_then ?_
                refine G_ret ?_
                refine G_retR ?_
                refine q_some fun hA => ?_
                show outV _ _ = some _
                kernel_rfl
              · refine q_bif (fun h21 => ?_) (fun h21 => ?_)
                · refine G_subR (Sub_lit (t := 43) (v := true) rfl h21) ?_
                  refine G_op [0] (v := (.agg [(.val (.int .i64 0)), (.val (.int .i64 0)), (.val (.int .i64 (-1)))])) (E_p (by kernel_rfl)) rfl rfl ?_
                  refine q_bind fun v24 hv24 => ?_
                  refine G_op [0] (v := (.val (.bool v24))) (E_call (ds := [.agg (e_ExpoT (ExpoT.mk 0 0 (-1)))]) (r := .bool v24) hc22 (by kernel_rfl) ((hs22 (ExpoT.mk 0 0 (-1)) _ (by kernel_rfl)).trans (congrArg _ hv24))) rfl rfl ?_
                  refine G_op [0] (v := (.val (.bool (!v24)))) (E_p (by kernel_rfl)) rfl rfl ?_
                  refine G_op [0] (v := (.val (.bool (!v24)))) (E_p (by kernel_rfl)) rfl rfl ?_
                  exact q_some fun h => RP_sub (by exact Sub_env ⟨.refl _, .refl _, trivial⟩) h
                · refine G_subR (Sub_lit (t := 43) (v := false) rfl h21) ?_
                  refine G_off rfl rfl ?_
                  refine G_off rfl rfl ?_
                  refine G_off rfl rfl ?_
                  refine G_op [0] (v := (.val (.bool false))) (E_p (by kernel_rfl)) rfl rfl ?_
                  exact q_some fun h => RP_sub (by exact Sub_env ⟨.refl _, .refl _, trivial⟩) h
            · refine q_bif (fun h18 => ?_) (fun h18 => ?_)
              · refine G_subR (Sub_lit (t := 38) (v := true) rfl h18) ?_
                refine G_op [0] (v := (.agg [(.val (.int .i64 5)), (.val (.int .i64 5)), (.val (.int .i64 5))])) (E_load (by kernel_rfl)) rfl rfl ?_
                refine G_op [0] (v := (.agg [(.val (.int .i64 9)), (.val (.int .i64 9)), (.val (.int .i64 0))])) (E_p (by kernel_rfl)) rfl rfl ?_
                refine q_bind fun v25 hv25 => ?_
                refine G_op [0] (v := (.val (.bool v25))) (E_call (ds := [.agg (e_ExpoT (ExpoT.mk 5 5 5)), .agg (e_ExpoT (ExpoT.mk 9 9 0))]) (r := .bool v25) hc28 (by kernel_rfl) ((hs28 (ExpoT.mk 5 5 5) (ExpoT.mk 9 9 0) _ (by kernel_rfl)).trans (congrArg _ hv25))) rfl rfl ?_
                refine G_op [0] (v := (.val (.bool v25))) (E_p (by kernel_rfl)) rfl rfl ?_
                exact q_some fun h => RP_sub (by exact Sub_keep ⟨.refl _, .refl _, trivial⟩ trivial (by kernel_rfl) (by kernel_rfl)) h
              · refine G_subR (Sub_lit (t := 38) (v := false) rfl h18) ?_
                refine G_off rfl rfl ?_
                refine G_off rfl rfl ?_
                refine G_off rfl rfl ?_
                refine G_op [0] (v := (.val (.bool false))) (E_p (by kernel_rfl)) rfl rfl ?_
                exact q_some fun h => RP_sub (by exact Sub_keep ⟨.refl _, .refl _, trivial⟩ trivial (by kernel_rfl) (by kernel_rfl)) h
          · refine q_two (b10 && (v1.1 == 7)) (fun h15 => ?_) (fun h15 => ?_)
            · refine G_subR (Sub_lit (t := 34) (v := true) rfl h15) ?_
              refine G_op [0] (v := (.val (.int .i64 v1.2))) (E_p (by kernel_rfl)) rfl rfl ?_
              refine G_op [0] (v := (.val (.bool (v1.2 == 0)))) (E_p (by kernel_rfl)) rfl rfl ?_
              refine G_op [0] (v := (.val (.bool (v1.2 == 0)))) (E_p (by kernel_rfl)) rfl rfl ?_
              exact q_some fun h => RP_sub (by exact Sub_env ⟨(Wk_and1 h15), .refl _, .refl _, trivial⟩) h
            · refine G_subR (Sub_lit (t := 34) (v := false) rfl h15) ?_
              refine G_off rfl rfl ?_
              refine G_off rfl rfl ?_
              refine G_op [0] (v := (.val (.bool false))) (E_p (by kernel_rfl)) rfl rfl ?_
              exact q_some fun h => RP_sub (by exact Sub_env ⟨(Wk_and0 h15), .refl _, .refl _, trivial⟩) h
        · refine q_two b10 (fun h12 => ?_) (fun h12 => ?_)
          · refine G_subR (Sub_lit (t := 30) (v := true) rfl h12) ?_
            refine G_op [0] (v := (.val (.int .i64 v1.1))) (E_p (by kernel_rfl)) rfl rfl ?_
            refine G_op [0] (v := (.val (.bool (v1.1 == 7)))) (E_p (by kernel_rfl)) rfl rfl ?_
            refine G_op [0] (v := (.val (.bool (v1.1 == 7)))) (E_p (by kernel_rfl)) rfl rfl ?_
            exact q_some fun h => RP_sub (by exact Sub_env ⟨(Wk_and1 h12), .refl _, .refl _, .refl _, trivial⟩) h
          · refine G_subR (Sub_lit (t := 30) (v := false) rfl h12) ?_
            refine G_off rfl rfl ?_
            refine G_off rfl rfl ?_
            refine G_op [0] (v := (.val (.bool false))) (E_p (by kernel_rfl)) rfl rfl ?_
            exact q_some fun h => RP_sub (by exact Sub_env ⟨(Wk_and0 h12), .refl _, .refl _, .refl _, trivial⟩) h
      · refine q_bif (fun h9 => ?_) (fun h9 => ?_)
        · refine G_subR (Sub_lit (t := 27) (v := true) rfl h9) ?_
          refine q_bind fun v26 hv26 => ?_
          refine G_op [0] (v := (.val (.bool v26))) (E_call (ds := [.int .i64 0, .int .i64 6, .int .i64 5]) (r := .bool v26) hc26 (by kernel_rfl) ((hs26 0 6 5 _ (by kernel_rfl)).trans (congrArg _ hv26))) rfl rfl ?_
          refine G_op [0] (v := (.val (.bool v26))) (E_p (by kernel_rfl)) rfl rfl ?_
          exact q_some fun h => RP_sub (by exact Sub_env ⟨.refl _, .refl _, .refl _, .refl _, .refl _, trivial⟩) h
        · refine G_subR (Sub_lit (t := 27) (v := false) rfl h9) ?_
          refine G_off rfl rfl ?_
          refine G_op [0] (v := (.val (.bool false))) (E_p (by kernel_rfl)) rfl rfl ?_
          exact q_some fun h => RP_sub (by exact Sub_env ⟨.refl _, .refl _, .refl _, .refl _, .refl _, trivial⟩) h
    · refine q_bif (fun h6 => ?_) (fun h6 => ?_)
      · refine G_subR (Sub_lit (t := 20) (v := true) rfl h6) ?_
        refine G_op [0] (v := (.agg [(.val (.int .i64 7)), (.val (.int .i64 0)), (.val (.int .i64 0))])) (E_p (by kernel_rfl)) rfl rfl ?_
        refine G_op [0] (v := (.agg [(.val (.int .i64 6)), (.val (.int .i64 0)), (.val (.int .i64 0))])) (E_p (by kernel_rfl)) rfl rfl ?_
        refine G_op [0] (v := (.agg [(.val (.int .i64 5)), (.val (.int .i64 5)), (.val (.int .i64 5))])) (E_load (by kernel_rfl)) rfl rfl ?_
        refine q_bind fun v27 hv27 => ?_
        refine G_op [0] (v := (.val (.bool v27))) (E_call (ds := [.agg (e_ExpoT (ExpoT.mk 7 0 0)), .agg (e_ExpoT (ExpoT.mk 6 0 0)), .agg (e_ExpoT (ExpoT.mk 5 5 5))]) (r := .bool v27) hc24 (by kernel_rfl) ((hs24 (ExpoT.mk 7 0 0) (ExpoT.mk 6 0 0) (ExpoT.mk 5 5 5) _ (by kernel_rfl)).trans (congrArg _ hv27))) rfl rfl ?_
        refine G_op [0] (v := (.val (.bool (!v27)))) (E_p (by kernel_rfl)) rfl rfl ?_
        refine G_op [0] (v := (.val (.bool (!v27)))) (E_p (by kernel_rfl)) rfl rfl ?_
        exact q_some fun h => RP_sub (by exact Sub_env ⟨.refl _, .refl _, .refl _, .refl _, .refl _, trivial⟩) h
      · refine G_subR (Sub_lit (t := 20) (v := false) rfl h6) ?_
        refine G_off rfl rfl ?_
        refine G_off rfl rfl ?_
        refine G_off rfl rfl ?_
        refine G_off rfl rfl ?_
        refine G_off rfl rfl ?_
        refine G_op [0] (v := (.val (.bool false))) (E_p (by kernel_rfl)) rfl rfl ?_
        exact q_some fun h => RP_sub (by exact Sub_env ⟨.refl _, .refl _, .refl _, .refl _, .refl _, trivial⟩) h
  · refine q_bif (fun h3 => ?_) (fun h3 => ?_)
    · refine G_subR (Sub_lit (t := 14) (v := true) rfl h3) ?_
      refine G_op [0] (v := (.agg [(.val (.int .i64 5)), (.val (.int .i64 0)), (.val (.int .i64 0))])) (E_p (by kernel_rfl)) rfl rfl ?_
      refine G_op [0] (v := (.agg [(.val (.int .i64 6)), (.val (.int .i64 0)), (.val (.int .i64 0))])) (E_p (by kernel_rfl)) rfl rfl ?_
      refine G_op [0] (v := (.agg [(.val (.int .i64 5)), (.val (.int .i64 5)), (.val (.int .i64 5))])) (E_load (by kernel_rfl)) rfl rfl ?_
      refine q_bind fun v28 hv28 => ?_
      refine G_op [0] (v := (.val (.bool v28))) (E_call (ds := [.agg (e_ExpoT (ExpoT.mk 5 0 0)), .agg (e_ExpoT (ExpoT.mk 6 0 0)), .agg (e_ExpoT (ExpoT.mk 5 5 5))]) (r := .bool v28) hc24 (by kernel_rfl) ((hs24 (ExpoT.mk 5 0 0) (ExpoT.mk 6 0 0) (ExpoT.mk 5 5 5) _ (by kernel_rfl)).trans (congrArg _ hv28))) rfl rfl ?_
      refine G_op [0] (v := (.val (.bool v28))) (E_p (by kernel_rfl)) rfl rfl ?_
      exact q_some fun h => RP_sub (by exact Sub_keep ⟨.refl _, .refl _, .refl _, .refl _, .refl _, trivial⟩ ⟨⟨_, (by kernel_rfl), .refl _⟩, trivial⟩ (by kernel_rfl) (by kernel_rfl)) h
    · refine G_subR (Sub_lit (t := 14) (v := false) rfl h3) ?_
      refine G_off rfl rfl ?_
      refine G_off rfl rfl ?_
      refine G_off rfl rfl ?_
      refine G_off rfl rfl ?_
      refine G_op [0] (v := (.val (.bool false))) (E_p (by kernel_rfl)) rfl rfl ?_
      exact q_some fun h => RP_sub (by exact Sub_keep ⟨.refl _, .refl _, .refl _, .refl _, .refl _, trivial⟩ ⟨⟨_, (by kernel_rfl), .refl _⟩, trivial⟩ (by kernel_rfl) (by kernel_rfl)) h
theorem s19 (ds : List DV) (hd : List.map z1 ds = List.map z1 []) : sp19 ds = (g_snafflelaw09_awake).map fun r => .bool r :=
  specT_at (ea := fun (_ : Unit) => []) (eb := fun (r : Bool) => .bool r) (g := fun (_ : Unit) => g_snafflelaw09_awake) inj19 () hd

def t33_1 : List AIns := (⟨(some 23), (.p (.pick (.t 14) (.c (.bool true)) (.t 22))), none⟩ :: [])
def t33_0 : List AIns := (⟨(some 14), (.p (.mv (.t 13))), none⟩ :: ⟨(some 15), (.p (.mv (.t 1))), (some (14, false))⟩ :: ⟨(some 16), (.p (.bin .lss (.t 15) (.c (.int .i64 0)))), (some (14, false))⟩ :: ⟨(some 17), (.p (.mv (.t 16))), (some (14, false))⟩ :: ⟨(some 18), (.p (.mv (.t 0))), (some (17, true))⟩ :: ⟨(some 19), (.p (.mv (.t 1))), (some (17, true))⟩ :: ⟨(some 20), (.p (.bin .sub (.c (.int .i64 (-9223372036854775808))) (.t 19))), (some (17, true))⟩ :: ⟨(some 21), (.p (.bin .lss (.t 18) (.t 20))), (some (17, true))⟩ :: ⟨(some 22), (.p (.pick (.t 17) (.t 21) (.c (.bool false)))), (some (14, false))⟩ :: t33_1)
def k33_0 : ACode := (.region (⟨(some 6), (.p (.mv (.t 1))), none⟩ :: ⟨(some 7), (.p (.bin .gtr (.t 6) (.c (.int .i64 0)))), none⟩ :: ⟨(some 8), (.p (.mv (.t 7))), none⟩ :: ⟨(some 9), (.p (.mv (.t 0))), (some (8, true))⟩ :: ⟨(some 10), (.p (.mv (.t 1))), (some (8, true))⟩ :: ⟨(some 11), (.p (.bin .sub (.c (.int .i64 9223372036854775807)) (.t 10))), (some (8, true))⟩ :: ⟨(some 12), (.p (.bin .gtr (.t 9) (.t 11))), (some (8, true))⟩ :: ⟨(some 13), (.p (.pick (.t 8) (.t 12) (.c (.bool false)))), none⟩ :: t33_0))
def k33_1 : ACode := (.cond (.t 23) (.seq (.region (⟨(some 4), (.p (.mv (.c (.int .i64 0)))), none⟩ :: ⟨(some 5), (.p (.mv (.c (.bool false)))), none⟩ :: [])) .ret) .skip)
def k33_2 : ACode := (.seq k33_0 k33_1)
def k33_3 : ACode := (.region (⟨(some 24), (.p (.mv (.t 0))), none⟩ :: ⟨(some 25), (.p (.mv (.t 1))), none⟩ :: ⟨(some 26), (.p (.bin .add (.t 24) (.t 25))), none⟩ :: ⟨(some 4), (.p (.mv (.t 26))), none⟩ :: ⟨(some 5), (.p (.mv (.c (.bool true)))), none⟩ :: []))
def k33_4 : ACode := (.seq k33_3 .ret)
def k33_5 : ACode := (.seq k33_2 k33_4)
def cd33 : ACode := (.seq (.region (⟨(some 4), (.p (.mv (.c (.int .i64 0)))), none⟩ :: ⟨(some 5), (.p (.mv (.c (.bool false)))), none⟩ :: [])) k33_5)
def rs33 : List ARes := [(.tmp 4), (.tmp 5)]
def af33 : AFn := ⟨cd33, rs33, 27⟩
theorem c33 : compF Try.prog 33 = some af33 := by kernel_rfl
noncomputable def g_snaffleref01_Add (p_a : Int) (p_b : Int) : Option (Int × Bool) := (bif (((decide (p_b > 0)) && (decide (p_a > (IntKind.wrap .i64 (9223372036854775807 - p_b))))) || ((decide (p_b < 0)) && (decide (p_a < (IntKind.wrap .i64 ((-9223372036854775808) - p_b)))))) then (some (0, false)) else (some ((IntKind.wrap .i64 (p_a + p_b)), true)))
noncomputable def sp33 : List DV → Option DV := specT (fun (a : Int × Int) => [.int .i64 a.1, .int .i64 a.2]) (fun (r : (Int × Bool)) => .tup [.int .i64 r.1, .bool r.2]) (fun (a : Int × Int) => g_snaffleref01_Add a.1 a.2)
theorem inj33 : ∀ (a b : Int × Int), List.map z1 ((fun (a : Int × Int) => [.int .i64 a.1, .int .i64 a.2]) a) = List.map z1 ((fun (a : Int × Int) => [.int .i64 a.1, .int .i64 a.2]) b) → a = b := by
  rintro ⟨a0, a1⟩ ⟨b0, b1⟩ h
  simp only [List.map_cons, List.map_nil, List.cons.injEq, and_true] at h
  obtain ⟨h0, h1⟩ := h
  exact (pair_eq (DV.int.inj h0).2 (DV.int.inj h1).2)
set_option maxHeartbeats 1000000 in
theorem w33 {C : FuncId → Con} (hC : ConOk Try.prog C) : ValOk Try.prog 33 sp33 := by
  refine valT_of hC c33 _ _ _ inj33 ?_
  rintro ⟨p_a, p_b⟩
  show Imq (g_snaffleref01_Add p_a p_b) (fun _ => True) fun r => WP Try.prog C (fun _ => False) cd33 (retQ fun s => outV s rs33 = some (.tup [.int .i64 r.1, .bool r.2])) ⟨⟨27, [(0, (.val (.int .i64 p_a))), (1, (.val (.int .i64 p_b)))]⟩, mkH []⟩
  unfold g_snaffleref01_Add
  refine G_seq ?_
  refine G_region ?_
  refine G_op [0] (v := (.val (.int .i64 0))) (E_p (by kernel_rfl)) rfl rfl ?_
  refine G_op [0] (v := (.val (.bool false))) (E_p (by kernel_rfl)) rfl rfl ?_
  refine G_nil ?_
  refine G_then ?_
  refine G_seq ?_
  refine G_seq ?_
  refine G_region ?_
  refine G_op [0] (v := (.val (.int .i64 p_b))) (E_p (by kernel_rfl)) rfl rfl ?_
  refine G_op [0] (v := (.val (.bool (decide (p_b > 0))))) (E_p (by kernel_rfl)) rfl rfl ?_
  refine G_op [0] (v := (.val (.bool (decide (p_b > 0))))) (E_p (by kernel_rfl)) rfl rfl ?_
  refine G_pure (l := t33_0) (st := ⟨⟨27, [(13, (.val (.bool ((decide (p_b > 0)) && (decide (p_a > (IntKind.wrap .i64 (9223372036854775807 - p_b)))))))), (5, (.val (.bool false))), (4, (.val (.int .i64 0))), (0, (.val (.int .i64 p_a))), (1, (.val (.int .i64 p_b)))]⟩, mkH []⟩) ?_ (fun r3 => ?_)
  · refine G_op [0] (v := (.val (.bool ((decide (p_b > 0)) && (decide (p_a > (IntKind.wrap .i64 (9223372036854775807 - p_b)))))))) (E_p (by kernel_rfl)) rfl rfl ?_
    refine G_pure (l := []) (st := ⟨⟨27, [(23, (.val (.bool (((decide (p_b > 0)) && (decide (p_a > (IntKind.wrap .i64 (9223372036854775807 - p_b))))) || ((decide (p_b < 0)) && (decide (p_a < (IntKind.wrap .i64 ((-9223372036854775808) - p_b))))))))), (5, (.val (.bool false))), (4, (.val (.int .i64 0))), (0, (.val (.int .i64 p_a))), (1, (.val (.int .i64 p_b)))]⟩, mkH []⟩) ?_ (fun r6 => ?_)
    · refine G_nil ?_
      refine G_then ?_
      refine G_cond (t := (((decide (p_b > 0)) && (decide (p_a > (IntKind.wrap .i64 (9223372036854775807 - p_b))))) || ((decide (p_b < 0)) && (decide (p_a < (IntKind.wrap .i64 ((-9223372036854775808) - p_b))))))) (by kernel_rfl) (fun _ => ?_) (fun _ => ?_)
      · refine G_seq ?_
        refine G_region ?_
        refine G_op [0] (v := (.val (.int .i64 0))) (E_p (by kernel_rfl)) rfl rfl ?_
        refine G_op [0] (v := (.val (.bool false))) (E_p (by kernel_rfl)) rfl rfl ?_
        refine G_nil ?_
        refine G_then ?_
        refine G_ret ?_
        refine G_thenR ?_
        refine G_retR ?_
        refine q_some fun hA => ?_
        show outV _ _ = some _
        kernel_rfl
      · refine G_skip ?_
        refine G_then ?_
        refine G_seq ?_
        refine G_region ?_
        refine G_op [0] (v := (.val (.int .i64 p_a))) (E_p (by kernel_rfl)) rfl rfl ?_
        refine G_op [0] (v := (.val (.int .i64 p_b))) (E_p (by kernel_rfl)) rfl rfl ?_
        refine G_op [0] (v := (.val (.int .i64 (IntKind.wrap .i64 (p_a + p_b))))) (E_p (by kernel_rfl)) rfl rfl ?_
        refine G_op [0] (v := (.val (.int .i64 (IntKind.wrap .i64 (p_a + p_b))))) (E_p (by kernel_rfl)) rfl rfl ?_
        refine G_op [0] (v := (.val (.bool true))) (E_p (by kernel_rfl)) rfl rfl ?_
        refine G_nil ?_
        refine G_then ?_
        refine G_ret ?_
        refine G_retR ?_
        refine q_some fun hA => ?_
        show outV _ _ = some _
        kernel_rfl
    · refine q_two ((decide (p_b > 0)) && (decide (p_a > (IntKind.wrap .i64 (9223372036854775807 - p_b))))) (fun h4 => ?_) (fun h4 => ?_)
      · refine G_subR (Sub_lit (t := 14) (v := true) rfl h4) ?_
        refine G_off rfl rfl ?_
        refine G_off rfl rfl ?_
        refine G_off rfl rfl ?_
        refine G_off rfl rfl ?_
        refine G_off rfl rfl ?_
        refine G_off rfl rfl ?_
        refine G_off rfl rfl ?_
        refine G_off rfl rfl ?_
        refine G_op [0] (v := (.val (.bool true))) (E_p (by kernel_rfl)) rfl rfl ?_
        exact q_some fun h => RP_sub (by exact Sub_env ⟨(Wk_or1 h4), .refl _, .refl _, .refl _, .refl _, trivial⟩) h
      · refine G_subR (Sub_lit (t := 14) (v := false) rfl h4) ?_
        refine G_op [0] (v := (.val (.int .i64 p_b))) (E_p (by kernel_rfl)) rfl rfl ?_
        refine G_op [0] (v := (.val (.bool (decide (p_b < 0))))) (E_p (by kernel_rfl)) rfl rfl ?_
        refine G_op [0] (v := (.val (.bool (decide (p_b < 0))))) (E_p (by kernel_rfl)) rfl rfl ?_
        refine G_pure (l := t33_1) (st := ⟨⟨27, [(22, (.val (.bool ((decide (p_b < 0)) && (decide (p_a < (IntKind.wrap .i64 ((-9223372036854775808) - p_b)))))))), (14, (.val (.bool false))), (5, (.val (.bool false))), (4, (.val (.int .i64 0))), (0, (.val (.int .i64 p_a))), (1, (.val (.int .i64 p_b)))]⟩, mkH []⟩) ?_ (fun r9 => ?_)
        · refine G_op [0] (v := (.val (.bool ((decide (p_b < 0)) && (decide (p_a < (IntKind.wrap .i64 ((-9223372036854775808) - p_b)))))))) (E_p (by kernel_rfl)) rfl rfl ?_
          exact q_some fun h => RP_sub (by exact Sub_env ⟨(Wk_or0 h4), .refl _, .refl _, .refl _, .refl _, trivial⟩) h
        · refine q_two (decide (p_b < 0)) (fun h7 => ?_) (fun h7 => ?_)
          · refine G_subR (Sub_lit (t := 17) (v := true) rfl h7) ?_
            refine G_op [0] (v := (.val (.int .i64 p_a))) (E_p (by kernel_rfl)) rfl rfl ?_
            refine G_op [0] (v := (.val (.int .i64 p_b))) (E_p (by kernel_rfl)) rfl rfl ?_
            refine G_op [0] (v := (.val (.int .i64 (IntKind.wrap .i64 ((-9223372036854775808) - p_b))))) (E_p (by kernel_rfl)) rfl rfl ?_
            refine G_op [0] (v := (.val (.bool (decide (p_a < (IntKind.wrap .i64 ((-9223372036854775808) - p_b))))))) (E_p (by kernel_rfl)) rfl rfl ?_
            refine G_op [0] (v := (.val (.bool (decide (p_a < (IntKind.wrap .i64 ((-9223372036854775808) - p_b))))))) (E_p (by kernel_rfl)) rfl rfl ?_
            exact q_some fun h => RP_sub (by exact Sub_env ⟨(Wk_and1 h7), .refl _, .refl _, .refl _, .refl _, .refl _, trivial⟩) h
          · refine G_subR (Sub_lit (t := 17) (v := false) rfl h7) ?_
            refine G_off rfl rfl ?_
            refine G_off rfl rfl ?_
            refine G_off rfl rfl ?_
            refine G_off rfl rfl ?_
            refine G_op [0] (v := (.val (.bool false))) (E_p (by kernel_rfl)) rfl rfl ?_
            exact q_some fun h => RP_sub (by exact Sub_env ⟨(Wk_and0 h7), .refl _, .refl _, .refl _, .refl _, .refl _, trivial⟩) h
  · refine q_two (decide (p_b > 0)) (fun h1 => ?_) (fun h1 => ?_)
    · refine G_subR (Sub_lit (t := 8) (v := true) rfl h1) ?_
      refine G_op [0] (v := (.val (.int .i64 p_a))) (E_p (by kernel_rfl)) rfl rfl ?_
      refine G_op [0] (v := (.val (.int .i64 p_b))) (E_p (by kernel_rfl)) rfl rfl ?_
      refine G_op [0] (v := (.val (.int .i64 (IntKind.wrap .i64 (9223372036854775807 - p_b))))) (E_p (by kernel_rfl)) rfl rfl ?_
      refine G_op [0] (v := (.val (.bool (decide (p_a > (IntKind.wrap .i64 (9223372036854775807 - p_b))))))) (E_p (by kernel_rfl)) rfl rfl ?_
      refine G_op [0] (v := (.val (.bool (decide (p_a > (IntKind.wrap .i64 (9223372036854775807 - p_b))))))) (E_p (by kernel_rfl)) rfl rfl ?_
      exact q_some fun h => RP_sub (by exact Sub_env ⟨(Wk_and1 h1), .refl _, .refl _, .refl _, .refl _, trivial⟩) h
    · refine G_subR (Sub_lit (t := 8) (v := false) rfl h1) ?_
      refine G_off rfl rfl ?_
      refine G_off rfl rfl ?_
      refine G_off rfl rfl ?_
      refine G_off rfl rfl ?_
      refine G_op [0] (v := (.val (.bool false))) (E_p (by kernel_rfl)) rfl rfl ?_
      exact q_some fun h => RP_sub (by exact Sub_env ⟨(Wk_and0 h1), .refl _, .refl _, .refl _, .refl _, trivial⟩) h
theorem s33 (x0 : Int) (x1 : Int) (ds : List DV) (hd : List.map z1 ds = List.map z1 [.int .i64 x0, .int .i64 x1]) : sp33 ds = (g_snaffleref01_Add x0 x1).map fun r => .tup [.int .i64 r.1, .bool r.2] :=
  specT_at (ea := fun (a : Int × Int) => [.int .i64 a.1, .int .i64 a.2]) (eb := fun (r : (Int × Bool)) => .tup [.int .i64 r.1, .bool r.2]) (g := fun (a : Int × Int) => g_snaffleref01_Add a.1 a.2) inj33 (x0, x1) hd

def k21_0 : ACode := (.region (⟨(some 8), (.p (.mv (.t 5))), none⟩ :: ⟨(some 9), (.p (.mv (.t 0))), none⟩ :: ⟨(some 10), (.p (.len (.t 9))), none⟩ :: ⟨(some 11), (.p (.bin .lss (.t 8) (.t 10))), none⟩ :: []))
def k21_1 : ACode := (.seq k21_0 (.cond (.t 11) .skip (.exit 0)))
def k21_2 : ACode := (.region (⟨(some 15), (.p (.mv (.t 4))), none⟩ :: ⟨(some 16), (.p (.mv (.t 0))), none⟩ :: ⟨(some 17), (.p (.mv (.t 5))), none⟩ :: ⟨(some 18), (.p (.soff 4 (.t 16) (.t 17))), none⟩ :: ⟨(some 19), (.p (.foff 3 (.t 18))), none⟩ :: ⟨(some 20), (.r (.load 1 false (.t 19))), none⟩ :: ⟨(some 21), (.r (.call 33 [(.t 15), (.t 20)])), none⟩ :: ⟨(some 14), (.p (.mv (.t 21))), none⟩ :: ⟨(some 22), (.p (.ext (.t 14) 0)), none⟩ :: ⟨(some 23), (.p (.ext (.t 14) 1)), none⟩ :: ⟨(some 6), (.p (.mv (.t 22))), none⟩ :: ⟨(some 7), (.p (.mv (.t 23))), none⟩ :: []))
def k21_3 : ACode := (.cond (.t 25) (.seq (.region (⟨(some 2), (.p (.mv (.c (.int .i64 0)))), none⟩ :: ⟨(some 3), (.p (.mv (.c (.bool false)))), none⟩ :: [])) .ret) .skip)
def k21_4 : ACode := (.seq (.region (⟨(some 24), (.p (.mv (.t 7))), none⟩ :: ⟨(some 25), (.p (.un .not (.t 24))), none⟩ :: [])) k21_3)
def k21_5 : ACode := (.seq k21_4 (.region (⟨(some 26), (.p (.mv (.t 6))), none⟩ :: ⟨(some 4), (.p (.mv (.t 26))), none⟩ :: [])))
def k21_6 : ACode := (.seq k21_2 k21_5)
def k21_7 : ACode := (.block 1 k21_6)
def k21_8 : ACode := (.seq k21_7 (.region (⟨(some 12), (.p (.mv (.t 5))), none⟩ :: ⟨(some 13), (.p (.bin .add (.t 12) (.c (.int .i64 1)))), none⟩ :: ⟨(some 5), (.p (.mv (.t 13))), none⟩ :: [])))
def k21_9 : ACode := (.seq k21_1 k21_8)
def k21_10 : ACode := (.block 0 (.loop k21_9))
def k21_11 : ACode := (.seq (.region (⟨(some 5), (.p (.mv (.c (.int .i64 0)))), none⟩ :: [])) k21_10)
def k21_12 : ACode := (.seq (.region (⟨(some 27), (.p (.mv (.t 4))), none⟩ :: ⟨(some 2), (.p (.mv (.t 27))), none⟩ :: ⟨(some 3), (.p (.mv (.c (.bool true)))), none⟩ :: [])) .ret)
def k21_13 : ACode := (.seq k21_11 k21_12)
def k21_14 : ACode := (.seq (.region (⟨(some 4), (.p (.mv (.c (.int .i64 0)))), none⟩ :: [])) k21_13)
def cd21 : ACode := (.seq (.region (⟨(some 2), (.p (.mv (.c (.int .i64 0)))), none⟩ :: ⟨(some 3), (.p (.mv (.c (.bool false)))), none⟩ :: [])) k21_14)
def rs21 : List ARes := [(.tmp 2), (.tmp 3)]
def af21 : AFn := ⟨cd21, rs21, 28⟩
theorem c21 : compF Try.prog 21 = some af21 := by kernel_rfl
noncomputable def g_snaffleref09_Whole_l0 (p_l : (List CellT)) (z1 : Int × Int) : Option ((Int × Int) ⊕ ((Int) ⊕ ((Int × Bool)))) := (bif (decide (z1.1 < (p_l.length : Int))) then (Option.bind (getO p_l z1.1) fun x4 => (Option.bind (g_snaffleref01_Add z1.2 x4.Open) fun v5 => (bif (!v5.2) then (some (.inr (.inr (0, false)))) else (some (.inl ((IntKind.wrap .i64 (z1.1 + 1)), v5.1)))))) else (some (.inr (.inl z1.2))))
noncomputable def g_snaffleref09_Whole (p_l : (List CellT)) : Option (Int × Bool) := (Option.bind (loopO (g_snaffleref09_Whole_l0 p_l) (0, 0)) (outE (fun (e2 : Int) => (some (e2, true)))))
noncomputable def sp21 : List DV → Option DV := specT (fun (a : (List CellT)) => [.sl 4 (List.map e_CellT a)]) (fun (r : (Int × Bool)) => .tup [.int .i64 r.1, .bool r.2]) (fun (a : (List CellT)) => g_snaffleref09_Whole a)
theorem inj21 : ∀ (a b : (List CellT)), List.map z1 ((fun (a : (List CellT)) => [.sl 4 (List.map e_CellT a)]) a) = List.map z1 ((fun (a : (List CellT)) => [.sl 4 (List.map e_CellT a)]) b) → a = b := by
  intro a0 b0 h
  simp only [List.map_cons, List.map_nil, List.cons.injEq, and_true] at h
  exact (map_inj e_CellT_inj (z1_sl h))
set_option maxHeartbeats 1000000 in
theorem w21 {C : FuncId → Con} (hC : ConOk Try.prog C) {q33 : List DV → Option DV} (hc33 : C 33 = .val q33) (hs33 : ∀ (x0 : Int) (x1 : Int) (ds : List DV), List.map z1 ds = List.map z1 [.int .i64 x0, .int .i64 x1] → q33 ds = (g_snaffleref01_Add x0 x1).map fun r => .tup [.int .i64 r.1, .bool r.2]) : ValOk Try.prog 21 sp21 := by
  refine valT_of hC c21 _ _ _ inj21 ?_
  intro p_l
  show Imq (g_snaffleref09_Whole p_l) (fun _ => True) fun r => WP Try.prog C (fun _ => False) cd21 (retQ fun s => outV s rs21 = some (.tup [.int .i64 r.1, .bool r.2])) ⟨⟨28, [(0, (.val (.sl 4 (List.map e_CellT p_l))))]⟩, mkH []⟩
  unfold g_snaffleref09_Whole
  refine G_seq ?_
  refine G_region ?_
  refine G_op [0] (v := (.val (.int .i64 0))) (E_p (by kernel_rfl)) rfl rfl ?_
  refine G_op [0] (v := (.val (.bool false))) (E_p (by kernel_rfl)) rfl rfl ?_
  refine G_nil ?_
  refine G_then ?_
  refine G_seq ?_
  refine G_region ?_
  refine G_op [0] (v := (.val (.int .i64 0))) (E_p (by kernel_rfl)) rfl rfl ?_
  refine G_nil ?_
  refine G_then ?_
  refine G_seq ?_
  refine G_seq ?_
  refine G_region ?_
  refine G_op [0] (v := (.val (.int .i64 0))) (E_p (by kernel_rfl)) rfl rfl ?_
  refine G_nil ?_
  refine G_then ?_
  refine G_loopR (enc := fun z1 => ⟨⟨28, [(5, (.val (.int .i64 z1.1))), (4, (.val (.int .i64 z1.2))), (3, (.val (.bool false))), (2, (.val (.int .i64 0))), (0, (.val (.sl 4 (List.map e_CellT p_l))))]⟩, mkH []⟩) (out := fun e2 => ⟨⟨28, [(4, (.val (.int .i64 e2))), (3, (.val (.bool false))), (2, (.val (.int .i64 0)))]⟩, mkH []⟩) (by exact Sub_env ⟨.refl _, .refl _, .refl _, .refl _, .refl _, trivial⟩) (fun e2 => ?_) (fun r3 hr3 R z1 => ?_)
  · refine G_then ?_
    refine G_seq ?_
    refine G_region ?_
    refine G_op [0] (v := (.val (.int .i64 e2))) (E_p (by kernel_rfl)) rfl rfl ?_
    refine G_op [0] (v := (.val (.int .i64 e2))) (E_p (by kernel_rfl)) rfl rfl ?_
    refine G_op [0] (v := (.val (.bool true))) (E_p (by kernel_rfl)) rfl rfl ?_
    refine G_nil ?_
    refine G_then ?_
    refine G_ret ?_
    refine G_retR ?_
    refine q_some fun hA => ?_
    show outV _ _ = some _
    kernel_rfl
  · unfold g_snaffleref09_Whole_l0
    refine G_seq ?_
    refine G_seq ?_
    refine G_region ?_
    refine G_op [0] (v := (.val (.int .i64 z1.1))) (E_p (by kernel_rfl)) rfl rfl ?_
    refine G_op [0] (v := (.val (.sl 4 (List.map e_CellT p_l)))) (E_p (by kernel_rfl)) rfl rfl ?_
    refine G_op [0] (v := (.val (.int .i64 (p_l.length : Int)))) (E_len (s := 4) (e := e_CellT) (xs := p_l) (by kernel_rfl)) rfl rfl ?_
    refine G_op [0] (v := (.val (.bool (decide (z1.1 < (p_l.length : Int)))))) (E_p (by kernel_rfl)) rfl rfl ?_
    refine G_nil ?_
    refine G_then ?_
    refine G_cond (t := (decide (z1.1 < (p_l.length : Int)))) (by kernel_rfl) (fun _ => ?_) (fun _ => ?_)
    · refine G_skip ?_
      refine G_then ?_
      refine G_seq ?_
      refine G_block ?_
      refine G_seq ?_
      refine G_region ?_
      refine G_op [0] (v := (.val (.int .i64 z1.2))) (E_p (by kernel_rfl)) rfl rfl ?_
      refine G_op [0] (v := (.val (.sl 4 (List.map e_CellT p_l)))) (E_p (by kernel_rfl)) rfl rfl ?_
      refine G_op [0] (v := (.val (.int .i64 z1.1))) (E_p (by kernel_rfl)) rfl rfl ?_
      refine q_bind fun x4 hx4 => ?_
      refine G_op [0] (v := (.val (.pt [(.int .i64 x4.Pos), (.int .i64 x4.Buy), (.int .i64 x4.Sell), (.int .i64 x4.Open)]))) (E_soff (s := 4) (e := e_CellT) (xs := p_l) (n := z1.1) (a := x4) (by kernel_rfl) (by kernel_rfl) hx4) rfl rfl ?_
      refine G_op [0] (v := (.val (.pt [(.int .i64 x4.Open)]))) (E_p (by kernel_rfl)) rfl rfl ?_
      refine G_op [0] (v := (.val (.int .i64 x4.Open))) (E_load (by kernel_rfl)) rfl rfl ?_
      refine q_bind fun v5 hv5 => ?_
      refine G_op [0] (v := (.val (.tup [(.int .i64 v5.1), (.bool v5.2)]))) (E_call (ds := [.int .i64 z1.2, .int .i64 x4.Open]) (r := .tup [.int .i64 v5.1, .bool v5.2]) hc33 (by kernel_rfl) ((hs33 z1.2 x4.Open _ (by kernel_rfl)).trans (congrArg _ hv5))) rfl rfl ?_
      refine G_op [0] (v := (.val (.tup [(.int .i64 v5.1), (.bool v5.2)]))) (E_p (by kernel_rfl)) rfl rfl ?_
      refine G_op [0] (v := (.val (.int .i64 v5.1))) (E_p (by kernel_rfl)) rfl rfl ?_
      refine G_op [0] (v := (.val (.bool v5.2))) (E_p (by kernel_rfl)) rfl rfl ?_
      refine G_op [0] (v := (.val (.int .i64 v5.1))) (E_p (by kernel_rfl)) rfl rfl ?_
      refine G_op [0] (v := (.val (.bool v5.2))) (E_p (by kernel_rfl)) rfl rfl ?_
      refine G_nil ?_
      refine G_then ?_
      refine G_subW (s0 := ⟨⟨28, [(7, (.val (.bool v5.2))), (6, (.val (.int .i64 v5.1))), (5, (.val (.int .i64 z1.1))), (4, (.val (.int .i64 z1.2))), (3, (.val (.bool false))), (2, (.val (.int .i64 0))), (0, (.val (.sl 4 (List.map e_CellT p_l))))]⟩, mkH []⟩) (by exact Sub_env ⟨.refl _, .refl _, .refl _, .refl _, .refl _, .refl _, .refl _, trivial⟩) ?_
      refine G_seq ?_
      refine G_seq ?_
      refine G_region ?_
      refine G_op [0] (v := (.val (.bool v5.2))) (E_p (by kernel_rfl)) rfl rfl ?_
      refine G_op [0] (v := (.val (.bool (!v5.2)))) (E_p (by kernel_rfl)) rfl rfl ?_
      refine G_nil ?_
      refine G_then ?_
      refine G_cond (t := (!v5.2)) (by kernel_rfl) (fun _ => ?_) (fun _ => ?_)
      · refine G_seq ?_
        refine G_region ?_
        refine G_op [0] (v := (.val (.int .i64 0))) (E_p (by kernel_rfl)) rfl rfl ?_
        refine G_op [0] (v := (.val (.bool false))) (E_p (by kernel_rfl)) rfl rfl ?_
        refine G_nil ?_
        refine G_then ?_
        refine G_ret ?_
        refine G_thenR ?_
        refine G_inBR ?_
        refine G_thenR ?_
        refine G_thenR ?_
        refine G_inBR ?_
        refine G_thenR ?_
        refine G_retR ?_
        refine q_some fun hA => ?_
        cases hA
        replace hA := hr3
        show outV _ _ = some _
        kernel_rfl
      · refine G_skip ?_
        refine G_then ?_
        refine G_region ?_
        refine G_op [0] (v := (.val (.int .i64 v5.1))) (E_p (by kernel_rfl)) rfl rfl ?_
        refine G_op [0] (v := (.val (.int .i64 v5.1))) (E_p (by kernel_rfl)) rfl rfl ?_
        refine G_nil ?_
        refine G_inB ?_
        refine G_then ?_
        refine G_region ?_
        refine G_op [0] (v := (.val (.int .i64 z1.1))) (E_p (by kernel_rfl)) rfl rfl ?_
        refine G_op [0] (v := (.val (.int .i64 (IntKind.wrap .i64 (z1.1 + 1))))) (E_p (by kernel_rfl)) rfl rfl ?_
        refine G_op [0] (v := (.val (.int .i64 (IntKind.wrap .i64 (z1.1 + 1))))) (E_p (by kernel_rfl)) rfl rfl ?_
        refine G_nil ?_
        refine G_then ?_
        exact q_some fun h => h _ (by exact Sub_env ⟨.refl _, .refl _, .refl _, .refl _, .refl _, trivial⟩)
    · refine G_exit ?_
      refine G_thenX ?_
      refine G_thenX ?_
      refine G_inBX ?_
      exact q_some fun h => (QN_then : QN _ _) _ _ (by exact Sub_env ⟨.refl _, .refl _, .refl _, trivial⟩) h
theorem s21 (x0 : (List CellT)) (ds : List DV) (hd : List.map z1 ds = List.map z1 [.sl 4 (List.map e_CellT x0)]) : sp21 ds = (g_snaffleref09_Whole x0).map fun r => .tup [.int .i64 r.1, .bool r.2] :=
  specT_at (ea := fun (a : (List CellT)) => [.sl 4 (List.map e_CellT a)]) (eb := fun (r : (Int × Bool)) => .tup [.int .i64 r.1, .bool r.2]) (g := fun (a : (List CellT)) => g_snaffleref09_Whole a) inj21 x0 hd

def t23_1 : List AIns := (⟨(some 2), (.p (.mv (.t 15))), none⟩ :: [])
def t23_0 : List AIns := (⟨(some 11), (.p (.mv (.t 10))), none⟩ :: ⟨(some 12), (.p (.foff 2 (.t 1))), (some (11, true))⟩ :: ⟨(some 13), (.r (.load 1 false (.t 12))), (some (11, true))⟩ :: ⟨(some 14), (.p (.bin .geq (.t 13) (.c (.int .i64 0)))), (some (11, true))⟩ :: ⟨(some 15), (.p (.pick (.t 11) (.t 14) (.c (.bool false)))), none⟩ :: t23_1)
def k23_0 : ACode := (.region (⟨(some 3), (.p (.foff 0 (.t 1))), none⟩ :: ⟨(some 4), (.r (.load 1 false (.t 3))), none⟩ :: ⟨(some 5), (.p (.bin .geq (.t 4) (.c (.int .i64 0)))), none⟩ :: ⟨(some 6), (.p (.mv (.t 5))), none⟩ :: ⟨(some 7), (.p (.foff 1 (.t 1))), (some (6, true))⟩ :: ⟨(some 8), (.r (.load 1 false (.t 7))), (some (6, true))⟩ :: ⟨(some 9), (.p (.bin .geq (.t 8) (.c (.int .i64 0)))), (some (6, true))⟩ :: ⟨(some 10), (.p (.pick (.t 6) (.t 9) (.c (.bool false)))), none⟩ :: t23_0))
def k23_1 : ACode := (.seq k23_0 .ret)
def cd23 : ACode := (.seq (.region (⟨(some 1), (.a (.bx (.t 0))), none⟩ :: ⟨(some 2), (.p (.mv (.c (.bool false)))), none⟩ :: [])) k23_1)
def rs23 : List ARes := [(.tmp 2)]
def af23 : AFn := ⟨cd23, rs23, 16⟩
theorem c23 : compF Try.prog 23 = some af23 := by kernel_rfl
noncomputable def g_snaffleref09_Right (p_l : ExpoT) : Option Bool := (some (((decide (p_l.Long ≥ 0)) && (decide (p_l.Short ≥ 0))) && (decide (p_l.Open ≥ 0))))
noncomputable def sp23 : List DV → Option DV := specT (fun (a : ExpoT) => [.agg (e_ExpoT a)]) (fun (r : Bool) => .bool r) (fun (a : ExpoT) => g_snaffleref09_Right a)
theorem inj23 : ∀ (a b : ExpoT), List.map z1 ((fun (a : ExpoT) => [.agg (e_ExpoT a)]) a) = List.map z1 ((fun (a : ExpoT) => [.agg (e_ExpoT a)]) b) → a = b := by
  intro a0 b0 h
  simp only [List.map_cons, List.map_nil, List.cons.injEq, and_true] at h
  exact (e_ExpoT_inj (DV.agg.inj h))
set_option maxHeartbeats 1000000 in
theorem w23 {C : FuncId → Con} (hC : ConOk Try.prog C) : ValOk Try.prog 23 sp23 := by
  refine valT_of hC c23 _ _ _ inj23 ?_
  intro p_l
  show Imq (g_snaffleref09_Right p_l) (fun _ => True) fun r => WP Try.prog C (fun _ => False) cd23 (retQ fun s => outV s rs23 = some (.bool r)) ⟨⟨16, [(0, (.val (.agg [(.int .i64 p_l.Long), (.int .i64 p_l.Short), (.int .i64 p_l.Open)])))]⟩, mkH []⟩
  unfold g_snaffleref09_Right
  refine G_seq ?_
  refine G_region ?_
  refine G_op [1001] (v := (.box [1001] 0)) (E_a (u := (.box [1001] 0)) (b := (.box [(.val (.int .i64 p_l.Long)), (.val (.int .i64 p_l.Short)), (.val (.int .i64 p_l.Open))])) (h' := [([1001], (.box [(.val (.int .i64 p_l.Long)), (.val (.int .i64 p_l.Short)), (.val (.int .i64 p_l.Open))]))]) (by kernel_rfl) (by kernel_rfl) (by kernel_rfl)) rfl rfl ?_
  refine G_op [0] (v := (.val (.bool false))) (E_p (by kernel_rfl)) rfl rfl ?_
  refine G_nil ?_
  refine G_then ?_
  refine G_seq ?_
  refine G_region ?_
  refine G_op [0] (v := (.box [1001] 0)) (E_p (by kernel_rfl)) rfl rfl ?_
  refine G_op [0] (v := (.val (.int .i64 p_l.Long))) (E_load (by kernel_rfl)) rfl rfl ?_
  refine G_op [0] (v := (.val (.bool (decide (p_l.Long ≥ 0))))) (E_p (by kernel_rfl)) rfl rfl ?_
  refine G_op [0] (v := (.val (.bool (decide (p_l.Long ≥ 0))))) (E_p (by kernel_rfl)) rfl rfl ?_
  refine G_pure (l := t23_0) (st := ⟨⟨16, [(10, (.val (.bool ((decide (p_l.Long ≥ 0)) && (decide (p_l.Short ≥ 0)))))), (2, (.val (.bool false))), (1, (.box [1001] 0))]⟩, mkH [([1001], (.box [(.val (.int .i64 p_l.Long)), (.val (.int .i64 p_l.Short)), (.val (.int .i64 p_l.Open))]))]⟩) ?_ (fun r3 => ?_)
  · refine G_op [0] (v := (.val (.bool ((decide (p_l.Long ≥ 0)) && (decide (p_l.Short ≥ 0)))))) (E_p (by kernel_rfl)) rfl rfl ?_
    refine G_pure (l := t23_1) (st := ⟨⟨16, [(15, (.val (.bool (((decide (p_l.Long ≥ 0)) && (decide (p_l.Short ≥ 0))) && (decide (p_l.Open ≥ 0)))))), (2, (.val (.bool false)))]⟩, mkH []⟩) ?_ (fun r6 => ?_)
    · refine G_op [0] (v := (.val (.bool (((decide (p_l.Long ≥ 0)) && (decide (p_l.Short ≥ 0))) && (decide (p_l.Open ≥ 0)))))) (E_p (by kernel_rfl)) rfl rfl ?_
      refine G_nil ?_
      refine G_then ?_
      refine G_ret ?_
      refine G_retR ?_
      refine q_some fun hA => ?_
      show outV _ _ = some _
      kernel_rfl
    · refine q_two ((decide (p_l.Long ≥ 0)) && (decide (p_l.Short ≥ 0))) (fun h4 => ?_) (fun h4 => ?_)
      · refine G_subR (Sub_lit (t := 11) (v := true) rfl h4) ?_
        refine G_op [0] (v := (.box [1001] 2)) (E_p (by kernel_rfl)) rfl rfl ?_
        refine G_op [0] (v := (.val (.int .i64 p_l.Open))) (E_load (by kernel_rfl)) rfl rfl ?_
        refine G_op [0] (v := (.val (.bool (decide (p_l.Open ≥ 0))))) (E_p (by kernel_rfl)) rfl rfl ?_
        refine G_op [0] (v := (.val (.bool (decide (p_l.Open ≥ 0))))) (E_p (by kernel_rfl)) rfl rfl ?_
        exact q_some fun h => RP_sub (by exact Sub_keep ⟨(Wk_and1 h4), .refl _, trivial⟩ trivial (by kernel_rfl) (by kernel_rfl)) h
      · refine G_subR (Sub_lit (t := 11) (v := false) rfl h4) ?_
        refine G_off rfl rfl ?_
        refine G_off rfl rfl ?_
        refine G_off rfl rfl ?_
        refine G_op [0] (v := (.val (.bool false))) (E_p (by kernel_rfl)) rfl rfl ?_
        exact q_some fun h => RP_sub (by exact Sub_keep ⟨(Wk_and0 h4), .refl _, trivial⟩ trivial (by kernel_rfl) (by kernel_rfl)) h
  · refine q_two (decide (p_l.Long ≥ 0)) (fun h1 => ?_) (fun h1 => ?_)
    · refine G_subR (Sub_lit (t := 6) (v := true) rfl h1) ?_
      refine G_op [0] (v := (.box [1001] 1)) (E_p (by kernel_rfl)) rfl rfl ?_
      refine G_op [0] (v := (.val (.int .i64 p_l.Short))) (E_load (by kernel_rfl)) rfl rfl ?_
      refine G_op [0] (v := (.val (.bool (decide (p_l.Short ≥ 0))))) (E_p (by kernel_rfl)) rfl rfl ?_
      refine G_op [0] (v := (.val (.bool (decide (p_l.Short ≥ 0))))) (E_p (by kernel_rfl)) rfl rfl ?_
      exact q_some fun h => RP_sub (by exact Sub_env ⟨(Wk_and1 h1), .refl _, .refl _, trivial⟩) h
    · refine G_subR (Sub_lit (t := 6) (v := false) rfl h1) ?_
      refine G_off rfl rfl ?_
      refine G_off rfl rfl ?_
      refine G_off rfl rfl ?_
      refine G_op [0] (v := (.val (.bool false))) (E_p (by kernel_rfl)) rfl rfl ?_
      exact q_some fun h => RP_sub (by exact Sub_env ⟨(Wk_and0 h1), .refl _, .refl _, trivial⟩) h
theorem s23 (x0 : ExpoT) (ds : List DV) (hd : List.map z1 ds = List.map z1 [.agg (e_ExpoT x0)]) : sp23 ds = (g_snaffleref09_Right x0).map fun r => .bool r :=
  specT_at (ea := fun (a : ExpoT) => [.agg (e_ExpoT a)]) (eb := fun (r : Bool) => .bool r) (g := fun (a : ExpoT) => g_snaffleref09_Right a) inj23 x0 hd

def t27_0 : List AIns := (⟨(some 6), (.p (.mv (.t 14))), none⟩ :: [])
def k27_0 : ACode := (.region (⟨(some 7), (.p (.mv (.t 1))), none⟩ :: ⟨(some 8), (.p (.mv (.t 0))), none⟩ :: ⟨(some 9), (.p (.bin .gtr (.t 7) (.t 8))), none⟩ :: ⟨(some 10), (.p (.mv (.t 9))), none⟩ :: ⟨(some 11), (.p (.mv (.t 1))), (some (10, true))⟩ :: ⟨(some 12), (.p (.mv (.t 2))), (some (10, true))⟩ :: ⟨(some 13), (.p (.bin .gtr (.t 11) (.t 12))), (some (10, true))⟩ :: ⟨(some 14), (.p (.pick (.t 10) (.t 13) (.c (.bool false)))), none⟩ :: t27_0))
def k27_1 : ACode := (.seq k27_0 .ret)
def cd27 : ACode := (.seq (.region (⟨(some 6), (.p (.mv (.c (.bool false)))), none⟩ :: [])) k27_1)
def rs27 : List ARes := [(.tmp 6)]
def af27 : AFn := ⟨cd27, rs27, 15⟩
theorem c27 : compF Try.prog 27 = some af27 := by kernel_rfl
noncomputable def g_snaffleref09_Cap (p_was : Int) (p_now : Int) (p_cap : Int) : Option Bool := (some ((decide (p_now > p_was)) && (decide (p_now > p_cap))))
noncomputable def sp27 : List DV → Option DV := specT (fun (a : Int × Int × Int) => [.int .i64 a.1, .int .i64 a.2.1, .int .i64 a.2.2]) (fun (r : Bool) => .bool r) (fun (a : Int × Int × Int) => g_snaffleref09_Cap a.1 a.2.1 a.2.2)
theorem inj27 : ∀ (a b : Int × Int × Int), List.map z1 ((fun (a : Int × Int × Int) => [.int .i64 a.1, .int .i64 a.2.1, .int .i64 a.2.2]) a) = List.map z1 ((fun (a : Int × Int × Int) => [.int .i64 a.1, .int .i64 a.2.1, .int .i64 a.2.2]) b) → a = b := by
  rintro ⟨a0, a1, a2⟩ ⟨b0, b1, b2⟩ h
  simp only [List.map_cons, List.map_nil, List.cons.injEq, and_true] at h
  obtain ⟨h0, h1, h2⟩ := h
  exact (pair_eq (DV.int.inj h0).2 (pair_eq (DV.int.inj h1).2 (DV.int.inj h2).2))
set_option maxHeartbeats 1000000 in
theorem w27 {C : FuncId → Con} (hC : ConOk Try.prog C) : ValOk Try.prog 27 sp27 := by
  refine valT_of hC c27 _ _ _ inj27 ?_
  rintro ⟨p_was, p_now, p_cap⟩
  show Imq (g_snaffleref09_Cap p_was p_now p_cap) (fun _ => True) fun r => WP Try.prog C (fun _ => False) cd27 (retQ fun s => outV s rs27 = some (.bool r)) ⟨⟨15, [(0, (.val (.int .i64 p_was))), (1, (.val (.int .i64 p_now))), (2, (.val (.int .i64 p_cap)))]⟩, mkH []⟩
  unfold g_snaffleref09_Cap
  refine G_seq ?_
  refine G_region ?_
  refine G_op [0] (v := (.val (.bool false))) (E_p (by kernel_rfl)) rfl rfl ?_
  refine G_nil ?_
  refine G_then ?_
  refine G_seq ?_
  refine G_region ?_
  refine G_op [0] (v := (.val (.int .i64 p_now))) (E_p (by kernel_rfl)) rfl rfl ?_
  refine G_op [0] (v := (.val (.int .i64 p_was))) (E_p (by kernel_rfl)) rfl rfl ?_
  refine G_op [0] (v := (.val (.bool (decide (p_now > p_was))))) (E_p (by kernel_rfl)) rfl rfl ?_
  refine G_op [0] (v := (.val (.bool (decide (p_now > p_was))))) (E_p (by kernel_rfl)) rfl rfl ?_
  refine G_pure (l := t27_0) (st := ⟨⟨15, [(14, (.val (.bool ((decide (p_now > p_was)) && (decide (p_now > p_cap)))))), (6, (.val (.bool false)))]⟩, mkH []⟩) ?_ (fun r3 => ?_)
  · refine G_op [0] (v := (.val (.bool ((decide (p_now > p_was)) && (decide (p_now > p_cap)))))) (E_p (by kernel_rfl)) rfl rfl ?_
    refine G_nil ?_
    refine G_then ?_
    refine G_ret ?_
    refine G_retR ?_
    refine q_some fun hA => ?_
    show outV _ _ = some _
    kernel_rfl
  · refine q_two (decide (p_now > p_was)) (fun h1 => ?_) (fun h1 => ?_)
    · refine G_subR (Sub_lit (t := 10) (v := true) rfl h1) ?_
      refine G_op [0] (v := (.val (.int .i64 p_now))) (E_p (by kernel_rfl)) rfl rfl ?_
      refine G_op [0] (v := (.val (.int .i64 p_cap))) (E_p (by kernel_rfl)) rfl rfl ?_
      refine G_op [0] (v := (.val (.bool (decide (p_now > p_cap))))) (E_p (by kernel_rfl)) rfl rfl ?_
      refine G_op [0] (v := (.val (.bool (decide (p_now > p_cap))))) (E_p (by kernel_rfl)) rfl rfl ?_
      exact q_some fun h => RP_sub (by exact Sub_env ⟨(Wk_and1 h1), .refl _, trivial⟩) h
    · refine G_subR (Sub_lit (t := 10) (v := false) rfl h1) ?_
      refine G_off rfl rfl ?_
      refine G_off rfl rfl ?_
      refine G_off rfl rfl ?_
      refine G_op [0] (v := (.val (.bool false))) (E_p (by kernel_rfl)) rfl rfl ?_
      exact q_some fun h => RP_sub (by exact Sub_env ⟨(Wk_and0 h1), .refl _, trivial⟩) h
theorem s27 (x0 : Int) (x1 : Int) (x2 : Int) (ds : List DV) (hd : List.map z1 ds = List.map z1 [.int .i64 x0, .int .i64 x1, .int .i64 x2]) : sp27 ds = (g_snaffleref09_Cap x0 x1 x2).map fun r => .bool r :=
  specT_at (ea := fun (a : Int × Int × Int) => [.int .i64 a.1, .int .i64 a.2.1, .int .i64 a.2.2]) (eb := fun (r : Bool) => .bool r) (g := fun (a : Int × Int × Int) => g_snaffleref09_Cap a.1 a.2.1 a.2.2) inj27 (x0, x1, x2) hd

def t25_1 : List AIns := (⟨(some 6), (.p (.mv (.t 31))), none⟩ :: [])
def t25_0 : List AIns := (⟨(some 23), (.p (.mv (.t 22))), none⟩ :: ⟨(some 24), (.p (.foff 2 (.t 3))), (some (23, false))⟩ :: ⟨(some 25), (.r (.load 1 false (.t 24))), (some (23, false))⟩ :: ⟨(some 26), (.p (.foff 2 (.t 4))), (some (23, false))⟩ :: ⟨(some 27), (.r (.load 1 false (.t 26))), (some (23, false))⟩ :: ⟨(some 28), (.p (.foff 2 (.t 5))), (some (23, false))⟩ :: ⟨(some 29), (.r (.load 1 false (.t 28))), (some (23, false))⟩ :: ⟨(some 30), (.r (.call 27 [(.t 25), (.t 27), (.t 29)])), (some (23, false))⟩ :: ⟨(some 31), (.p (.pick (.t 23) (.c (.bool true)) (.t 30))), none⟩ :: t25_1)
def k25_0 : ACode := (.region (⟨(some 3), (.a (.bx (.t 0))), none⟩ :: ⟨(some 4), (.a (.bx (.t 1))), none⟩ :: ⟨(some 5), (.a (.bx (.t 2))), none⟩ :: ⟨(some 6), (.p (.mv (.c (.bool false)))), none⟩ :: []))
def k25_1 : ACode := (.region (⟨(some 7), (.p (.foff 0 (.t 3))), none⟩ :: ⟨(some 8), (.r (.load 1 false (.t 7))), none⟩ :: ⟨(some 9), (.p (.foff 0 (.t 4))), none⟩ :: ⟨(some 10), (.r (.load 1 false (.t 9))), none⟩ :: ⟨(some 11), (.p (.foff 0 (.t 5))), none⟩ :: ⟨(some 12), (.r (.load 1 false (.t 11))), none⟩ :: ⟨(some 13), (.r (.call 27 [(.t 8), (.t 10), (.t 12)])), none⟩ :: ⟨(some 14), (.p (.mv (.t 13))), none⟩ :: ⟨(some 15), (.p (.foff 1 (.t 3))), (some (14, false))⟩ :: ⟨(some 16), (.r (.load 1 false (.t 15))), (some (14, false))⟩ :: ⟨(some 17), (.p (.foff 1 (.t 4))), (some (14, false))⟩ :: ⟨(some 18), (.r (.load 1 false (.t 17))), (some (14, false))⟩ :: ⟨(some 19), (.p (.foff 1 (.t 5))), (some (14, false))⟩ :: ⟨(some 20), (.r (.load 1 false (.t 19))), (some (14, false))⟩ :: ⟨(some 21), (.r (.call 27 [(.t 16), (.t 18), (.t 20)])), (some (14, false))⟩ :: ⟨(some 22), (.p (.pick (.t 14) (.c (.bool true)) (.t 21))), none⟩ :: t25_0))
def k25_2 : ACode := (.seq k25_1 .ret)
def cd25 : ACode := (.seq k25_0 k25_2)
def rs25 : List ARes := [(.tmp 6)]
def af25 : AFn := ⟨cd25, rs25, 32⟩
theorem c25 : compF Try.prog 25 = some af25 := by kernel_rfl
noncomputable def g_snaffleref09_Against (p_was : ExpoT) (p_now : ExpoT) (p_l : ExpoT) : Option Bool := (Option.bind (g_snaffleref09_Cap p_was.Long p_now.Long p_l.Long) fun v1 => (Option.bind (bif v1 then (some true) else (Option.bind (g_snaffleref09_Cap p_was.Short p_now.Short p_l.Short) fun v9 => (some v9))) fun (b3 : Bool) => (Option.bind (bif b3 then (some true) else (Option.bind (g_snaffleref09_Cap p_was.Open p_now.Open p_l.Open) fun v8 => (some v8))) fun (b6 : Bool) => (some b6))))
noncomputable def sp25 : List DV → Option DV := specT (fun (a : ExpoT × ExpoT × ExpoT) => [.agg (e_ExpoT a.1), .agg (e_ExpoT a.2.1), .agg (e_ExpoT a.2.2)]) (fun (r : Bool) => .bool r) (fun (a : ExpoT × ExpoT × ExpoT) => g_snaffleref09_Against a.1 a.2.1 a.2.2)
theorem inj25 : ∀ (a b : ExpoT × ExpoT × ExpoT), List.map z1 ((fun (a : ExpoT × ExpoT × ExpoT) => [.agg (e_ExpoT a.1), .agg (e_ExpoT a.2.1), .agg (e_ExpoT a.2.2)]) a) = List.map z1 ((fun (a : ExpoT × ExpoT × ExpoT) => [.agg (e_ExpoT a.1), .agg (e_ExpoT a.2.1), .agg (e_ExpoT a.2.2)]) b) → a = b := by
  rintro ⟨a0, a1, a2⟩ ⟨b0, b1, b2⟩ h
  simp only [List.map_cons, List.map_nil, List.cons.injEq, and_true] at h
  obtain ⟨h0, h1, h2⟩ := h
  exact (pair_eq (e_ExpoT_inj (DV.agg.inj h0)) (pair_eq (e_ExpoT_inj (DV.agg.inj h1)) (e_ExpoT_inj (DV.agg.inj h2))))
set_option maxHeartbeats 1000000 in
theorem w25 {C : FuncId → Con} (hC : ConOk Try.prog C) {q27 : List DV → Option DV} (hc27 : C 27 = .val q27) (hs27 : ∀ (x0 : Int) (x1 : Int) (x2 : Int) (ds : List DV), List.map z1 ds = List.map z1 [.int .i64 x0, .int .i64 x1, .int .i64 x2] → q27 ds = (g_snaffleref09_Cap x0 x1 x2).map fun r => .bool r) : ValOk Try.prog 25 sp25 := by
  refine valT_of hC c25 _ _ _ inj25 ?_
  rintro ⟨p_was, p_now, p_l⟩
  show Imq (g_snaffleref09_Against p_was p_now p_l) (fun _ => True) fun r => WP Try.prog C (fun _ => False) cd25 (retQ fun s => outV s rs25 = some (.bool r)) ⟨⟨32, [(0, (.val (.agg [(.int .i64 p_was.Long), (.int .i64 p_was.Short), (.int .i64 p_was.Open)]))), (1, (.val (.agg [(.int .i64 p_now.Long), (.int .i64 p_now.Short), (.int .i64 p_now.Open)]))), (2, (.val (.agg [(.int .i64 p_l.Long), (.int .i64 p_l.Short), (.int .i64 p_l.Open)])))]⟩, mkH []⟩
  unfold g_snaffleref09_Against
  refine G_seq ?_
  refine G_region ?_
  refine G_op [1001] (v := (.box [1001] 0)) (E_a (u := (.box [1001] 0)) (b := (.box [(.val (.int .i64 p_was.Long)), (.val (.int .i64 p_was.Short)), (.val (.int .i64 p_was.Open))])) (h' := [([1001], (.box [(.val (.int .i64 p_was.Long)), (.val (.int .i64 p_was.Short)), (.val (.int .i64 p_was.Open))]))]) (by kernel_rfl) (by kernel_rfl) (by kernel_rfl)) rfl rfl ?_
  refine G_op [1002] (v := (.box [1002] 0)) (E_a (u := (.box [1002] 0)) (b := (.box [(.val (.int .i64 p_now.Long)), (.val (.int .i64 p_now.Short)), (.val (.int .i64 p_now.Open))])) (h' := [([1001], (.box [(.val (.int .i64 p_was.Long)), (.val (.int .i64 p_was.Short)), (.val (.int .i64 p_was.Open))])), ([1002], (.box [(.val (.int .i64 p_now.Long)), (.val (.int .i64 p_now.Short)), (.val (.int .i64 p_now.Open))]))]) (by kernel_rfl) (by kernel_rfl) (by kernel_rfl)) rfl rfl ?_
  refine G_op [1003] (v := (.box [1003] 0)) (E_a (u := (.box [1003] 0)) (b := (.box [(.val (.int .i64 p_l.Long)), (.val (.int .i64 p_l.Short)), (.val (.int .i64 p_l.Open))])) (h' := [([1001], (.box [(.val (.int .i64 p_was.Long)), (.val (.int .i64 p_was.Short)), (.val (.int .i64 p_was.Open))])), ([1002], (.box [(.val (.int .i64 p_now.Long)), (.val (.int .i64 p_now.Short)), (.val (.int .i64 p_now.Open))])), ([1003], (.box [(.val (.int .i64 p_l.Long)), (.val (.int .i64 p_l.Short)), (.val (.int .i64 p_l.Open))]))]) (by kernel_rfl) (by kernel_rfl) (by kernel_rfl)) rfl rfl ?_
  refine G_op [0] (v := (.val (.bool false))) (E_p (by kernel_rfl)) rfl rfl ?_
  refine G_nil ?_
  refine G_then ?_
  refine G_seq ?_
  refine G_region ?_
  refine G_op [0] (v := (.box [1001] 0)) (E_p (by kernel_rfl)) rfl rfl ?_
  refine G_op [0] (v := (.val (.int .i64 p_was.Long))) (E_load (by kernel_rfl)) rfl rfl ?_
  refine G_op [0] (v := (.box [1002] 0)) (E_p (by kernel_rfl)) rfl rfl ?_
  refine G_op [0] (v := (.val (.int .i64 p_now.Long))) (E_load (by kernel_rfl)) rfl rfl ?_
  refine G_op [0] (v := (.box [1003] 0)) (E_p (by kernel_rfl)) rfl rfl ?_
  refine G_op [0] (v := (.val (.int .i64 p_l.Long))) (E_load (by kernel_rfl)) rfl rfl ?_
  refine q_bind fun v1 hv1 => ?_
  refine G_op [0] (v := (.val (.bool v1))) (E_call (ds := [.int .i64 p_was.Long, .int .i64 p_now.Long, .int .i64 p_l.Long]) (r := .bool v1) hc27 (by kernel_rfl) ((hs27 p_was.Long p_now.Long p_l.Long _ (by kernel_rfl)).trans (congrArg _ hv1))) rfl rfl ?_
  refine G_op [0] (v := (.val (.bool v1))) (E_p (by kernel_rfl)) rfl rfl ?_
  refine G_joinR (l := t25_0) (st := fun (b3 : Bool) => ⟨⟨32, [(22, (.val (.bool b3))), (6, (.val (.bool false))), (5, (.box [1003] 0)), (4, (.box [1002] 0)), (3, (.box [1001] 0))]⟩, mkH [([1001], (.box [(.val (.int .i64 p_was.Long)), (.val (.int .i64 p_was.Short)), (.val (.int .i64 p_was.Open))])), ([1002], (.box [(.val (.int .i64 p_now.Long)), (.val (.int .i64 p_now.Short)), (.val (.int .i64 p_now.Open))])), ([1003], (.box [(.val (.int .i64 p_l.Long)), (.val (.int .i64 p_l.Short)), (.val (.int .i64 p_l.Open))]))]⟩) (fun b3 => ?_) (fun r4 hr4 => ?_)
  · refine G_op [0] (v := (.val (.bool b3))) (E_p (by kernel_rfl)) rfl rfl ?_
    refine G_joinR (l := t25_1) (st := fun (b6 : Bool) => ⟨⟨32, [(31, (.val (.bool b6))), (6, (.val (.bool false)))]⟩, mkH []⟩) (fun b6 => ?_) (fun r7 hr7 => ?_)
    · refine G_op [0] (v := (.val (.bool b6))) (E_p (by kernel_rfl)) rfl rfl ?_
      refine G_nil ?_
      refine G_then ?_
      refine G_ret ?_
      refine G_retR ?_
      refine q_some fun hA => ?_
      show outV _ _ = some _
      kernel_rfl
    · refine q_bif (fun h5 => ?_) (fun h5 => ?_)
      · refine G_subR (Sub_lit (t := 23) (v := true) rfl h5) ?_
        refine G_off rfl rfl ?_
        refine G_off rfl rfl ?_
        refine G_off rfl rfl ?_
        refine G_off rfl rfl ?_
        refine G_off rfl rfl ?_
        refine G_off rfl rfl ?_
        refine G_off rfl rfl ?_
        refine G_op [0] (v := (.val (.bool true))) (E_p (by kernel_rfl)) rfl rfl ?_
        exact q_some fun h => RP_sub (by exact Sub_keep ⟨.refl _, .refl _, trivial⟩ trivial (by kernel_rfl) (by kernel_rfl)) h
      · refine G_subR (Sub_lit (t := 23) (v := false) rfl h5) ?_
        refine G_op [0] (v := (.box [1001] 2)) (E_p (by kernel_rfl)) rfl rfl ?_
        refine G_op [0] (v := (.val (.int .i64 p_was.Open))) (E_load (by kernel_rfl)) rfl rfl ?_
        refine G_op [0] (v := (.box [1002] 2)) (E_p (by kernel_rfl)) rfl rfl ?_
        refine G_op [0] (v := (.val (.int .i64 p_now.Open))) (E_load (by kernel_rfl)) rfl rfl ?_
        refine G_op [0] (v := (.box [1003] 2)) (E_p (by kernel_rfl)) rfl rfl ?_
        refine G_op [0] (v := (.val (.int .i64 p_l.Open))) (E_load (by kernel_rfl)) rfl rfl ?_
        refine q_bind fun v8 hv8 => ?_
        refine G_op [0] (v := (.val (.bool v8))) (E_call (ds := [.int .i64 p_was.Open, .int .i64 p_now.Open, .int .i64 p_l.Open]) (r := .bool v8) hc27 (by kernel_rfl) ((hs27 p_was.Open p_now.Open p_l.Open _ (by kernel_rfl)).trans (congrArg _ hv8))) rfl rfl ?_
        refine G_op [0] (v := (.val (.bool v8))) (E_p (by kernel_rfl)) rfl rfl ?_
        exact q_some fun h => RP_sub (by exact Sub_keep ⟨.refl _, .refl _, trivial⟩ trivial (by kernel_rfl) (by kernel_rfl)) h
  · refine q_bif (fun h2 => ?_) (fun h2 => ?_)
    · refine G_subR (Sub_lit (t := 14) (v := true) rfl h2) ?_
      refine G_off rfl rfl ?_
      refine G_off rfl rfl ?_
      refine G_off rfl rfl ?_
      refine G_off rfl rfl ?_
      refine G_off rfl rfl ?_
      refine G_off rfl rfl ?_
      refine G_off rfl rfl ?_
      refine G_op [0] (v := (.val (.bool true))) (E_p (by kernel_rfl)) rfl rfl ?_
      exact q_some fun h => RP_sub (by exact Sub_env ⟨.refl _, .refl _, .refl _, .refl _, .refl _, trivial⟩) h
    · refine G_subR (Sub_lit (t := 14) (v := false) rfl h2) ?_
      refine G_op [0] (v := (.box [1001] 1)) (E_p (by kernel_rfl)) rfl rfl ?_
      refine G_op [0] (v := (.val (.int .i64 p_was.Short))) (E_load (by kernel_rfl)) rfl rfl ?_
      refine G_op [0] (v := (.box [1002] 1)) (E_p (by kernel_rfl)) rfl rfl ?_
      refine G_op [0] (v := (.val (.int .i64 p_now.Short))) (E_load (by kernel_rfl)) rfl rfl ?_
      refine G_op [0] (v := (.box [1003] 1)) (E_p (by kernel_rfl)) rfl rfl ?_
      refine G_op [0] (v := (.val (.int .i64 p_l.Short))) (E_load (by kernel_rfl)) rfl rfl ?_
      refine q_bind fun v9 hv9 => ?_
      refine G_op [0] (v := (.val (.bool v9))) (E_call (ds := [.int .i64 p_was.Short, .int .i64 p_now.Short, .int .i64 p_l.Short]) (r := .bool v9) hc27 (by kernel_rfl) ((hs27 p_was.Short p_now.Short p_l.Short _ (by kernel_rfl)).trans (congrArg _ hv9))) rfl rfl ?_
      refine G_op [0] (v := (.val (.bool v9))) (E_p (by kernel_rfl)) rfl rfl ?_
      exact q_some fun h => RP_sub (by exact Sub_env ⟨.refl _, .refl _, .refl _, .refl _, .refl _, trivial⟩) h
theorem s25 (x0 : ExpoT) (x1 : ExpoT) (x2 : ExpoT) (ds : List DV) (hd : List.map z1 ds = List.map z1 [.agg (e_ExpoT x0), .agg (e_ExpoT x1), .agg (e_ExpoT x2)]) : sp25 ds = (g_snaffleref09_Against x0 x1 x2).map fun r => .bool r :=
  specT_at (ea := fun (a : ExpoT × ExpoT × ExpoT) => [.agg (e_ExpoT a.1), .agg (e_ExpoT a.2.1), .agg (e_ExpoT a.2.2)]) (eb := fun (r : Bool) => .bool r) (g := fun (a : ExpoT × ExpoT × ExpoT) => g_snaffleref09_Against a.1 a.2.1 a.2.2) inj25 (x0, x1, x2) hd

def t29_1 : List AIns := (⟨(some 24), (.p (.un .not (.t 23))), none⟩ :: ⟨(some 4), (.p (.mv (.t 24))), none⟩ :: [])
def t29_0 : List AIns := (⟨(some 17), (.p (.mv (.t 16))), none⟩ :: ⟨(some 18), (.p (.foff 2 (.t 3))), (some (17, true))⟩ :: ⟨(some 19), (.r (.load 1 false (.t 18))), (some (17, true))⟩ :: ⟨(some 20), (.p (.foff 2 (.t 2))), (some (17, true))⟩ :: ⟨(some 21), (.r (.load 1 false (.t 20))), (some (17, true))⟩ :: ⟨(some 22), (.p (.bin .geq (.t 19) (.t 21))), (some (17, true))⟩ :: ⟨(some 23), (.p (.pick (.t 17) (.t 22) (.c (.bool false)))), none⟩ :: t29_1)
def k29_0 : ACode := (.region (⟨(some 5), (.p (.foff 0 (.t 3))), none⟩ :: ⟨(some 6), (.r (.load 1 false (.t 5))), none⟩ :: ⟨(some 7), (.p (.foff 0 (.t 2))), none⟩ :: ⟨(some 8), (.r (.load 1 false (.t 7))), none⟩ :: ⟨(some 9), (.p (.bin .geq (.t 6) (.t 8))), none⟩ :: ⟨(some 10), (.p (.mv (.t 9))), none⟩ :: ⟨(some 11), (.p (.foff 1 (.t 3))), (some (10, true))⟩ :: ⟨(some 12), (.r (.load 1 false (.t 11))), (some (10, true))⟩ :: ⟨(some 13), (.p (.foff 1 (.t 2))), (some (10, true))⟩ :: ⟨(some 14), (.r (.load 1 false (.t 13))), (some (10, true))⟩ :: ⟨(some 15), (.p (.bin .geq (.t 12) (.t 14))), (some (10, true))⟩ :: ⟨(some 16), (.p (.pick (.t 10) (.t 15) (.c (.bool false)))), none⟩ :: t29_0))
def k29_1 : ACode := (.seq k29_0 .ret)
def cd29 : ACode := (.seq (.region (⟨(some 2), (.a (.bx (.t 0))), none⟩ :: ⟨(some 3), (.a (.bx (.t 1))), none⟩ :: ⟨(some 4), (.p (.mv (.c (.bool false)))), none⟩ :: [])) k29_1)
def rs29 : List ARes := [(.tmp 4)]
def af29 : AFn := ⟨cd29, rs29, 25⟩
theorem c29 : compF Try.prog 29 = some af29 := by kernel_rfl
noncomputable def g_snaffleref09_Lowers (p_was : ExpoT) (p_now : ExpoT) : Option Bool := (some (!(((decide (p_now.Long ≥ p_was.Long)) && (decide (p_now.Short ≥ p_was.Short))) && (decide (p_now.Open ≥ p_was.Open)))))
noncomputable def sp29 : List DV → Option DV := specT (fun (a : ExpoT × ExpoT) => [.agg (e_ExpoT a.1), .agg (e_ExpoT a.2)]) (fun (r : Bool) => .bool r) (fun (a : ExpoT × ExpoT) => g_snaffleref09_Lowers a.1 a.2)
theorem inj29 : ∀ (a b : ExpoT × ExpoT), List.map z1 ((fun (a : ExpoT × ExpoT) => [.agg (e_ExpoT a.1), .agg (e_ExpoT a.2)]) a) = List.map z1 ((fun (a : ExpoT × ExpoT) => [.agg (e_ExpoT a.1), .agg (e_ExpoT a.2)]) b) → a = b := by
  rintro ⟨a0, a1⟩ ⟨b0, b1⟩ h
  simp only [List.map_cons, List.map_nil, List.cons.injEq, and_true] at h
  obtain ⟨h0, h1⟩ := h
  exact (pair_eq (e_ExpoT_inj (DV.agg.inj h0)) (e_ExpoT_inj (DV.agg.inj h1)))
set_option maxHeartbeats 1000000 in
theorem w29 {C : FuncId → Con} (hC : ConOk Try.prog C) : ValOk Try.prog 29 sp29 := by
  refine valT_of hC c29 _ _ _ inj29 ?_
  rintro ⟨p_was, p_now⟩
  show Imq (g_snaffleref09_Lowers p_was p_now) (fun _ => True) fun r => WP Try.prog C (fun _ => False) cd29 (retQ fun s => outV s rs29 = some (.bool r)) ⟨⟨25, [(0, (.val (.agg [(.int .i64 p_was.Long), (.int .i64 p_was.Short), (.int .i64 p_was.Open)]))), (1, (.val (.agg [(.int .i64 p_now.Long), (.int .i64 p_now.Short), (.int .i64 p_now.Open)])))]⟩, mkH []⟩
  unfold g_snaffleref09_Lowers
  refine G_seq ?_
  refine G_region ?_
  refine G_op [1001] (v := (.box [1001] 0)) (E_a (u := (.box [1001] 0)) (b := (.box [(.val (.int .i64 p_was.Long)), (.val (.int .i64 p_was.Short)), (.val (.int .i64 p_was.Open))])) (h' := [([1001], (.box [(.val (.int .i64 p_was.Long)), (.val (.int .i64 p_was.Short)), (.val (.int .i64 p_was.Open))]))]) (by kernel_rfl) (by kernel_rfl) (by kernel_rfl)) rfl rfl ?_
  refine G_op [1002] (v := (.box [1002] 0)) (E_a (u := (.box [1002] 0)) (b := (.box [(.val (.int .i64 p_now.Long)), (.val (.int .i64 p_now.Short)), (.val (.int .i64 p_now.Open))])) (h' := [([1001], (.box [(.val (.int .i64 p_was.Long)), (.val (.int .i64 p_was.Short)), (.val (.int .i64 p_was.Open))])), ([1002], (.box [(.val (.int .i64 p_now.Long)), (.val (.int .i64 p_now.Short)), (.val (.int .i64 p_now.Open))]))]) (by kernel_rfl) (by kernel_rfl) (by kernel_rfl)) rfl rfl ?_
  refine G_op [0] (v := (.val (.bool false))) (E_p (by kernel_rfl)) rfl rfl ?_
  refine G_nil ?_
  refine G_then ?_
  refine G_seq ?_
  refine G_region ?_
  refine G_op [0] (v := (.box [1002] 0)) (E_p (by kernel_rfl)) rfl rfl ?_
  refine G_op [0] (v := (.val (.int .i64 p_now.Long))) (E_load (by kernel_rfl)) rfl rfl ?_
  refine G_op [0] (v := (.box [1001] 0)) (E_p (by kernel_rfl)) rfl rfl ?_
  refine G_op [0] (v := (.val (.int .i64 p_was.Long))) (E_load (by kernel_rfl)) rfl rfl ?_
  refine G_op [0] (v := (.val (.bool (decide (p_now.Long ≥ p_was.Long))))) (E_p (by kernel_rfl)) rfl rfl ?_
  refine G_op [0] (v := (.val (.bool (decide (p_now.Long ≥ p_was.Long))))) (E_p (by kernel_rfl)) rfl rfl ?_
  refine G_pure (l := t29_0) (st := ⟨⟨25, [(16, (.val (.bool ((decide (p_now.Long ≥ p_was.Long)) && (decide (p_now.Short ≥ p_was.Short)))))), (4, (.val (.bool false))), (3, (.box [1002] 0)), (2, (.box [1001] 0))]⟩, mkH [([1001], (.box [(.val (.int .i64 p_was.Long)), (.val (.int .i64 p_was.Short)), (.val (.int .i64 p_was.Open))])), ([1002], (.box [(.val (.int .i64 p_now.Long)), (.val (.int .i64 p_now.Short)), (.val (.int .i64 p_now.Open))]))]⟩) ?_ (fun r3 => ?_)
  · refine G_op [0] (v := (.val (.bool ((decide (p_now.Long ≥ p_was.Long)) && (decide (p_now.Short ≥ p_was.Short)))))) (E_p (by kernel_rfl)) rfl rfl ?_
    refine G_pure (l := t29_1) (st := ⟨⟨25, [(23, (.val (.bool (((decide (p_now.Long ≥ p_was.Long)) && (decide (p_now.Short ≥ p_was.Short))) && (decide (p_now.Open ≥ p_was.Open)))))), (4, (.val (.bool false)))]⟩, mkH []⟩) ?_ (fun r6 => ?_)
    · refine G_op [0] (v := (.val (.bool (!(((decide (p_now.Long ≥ p_was.Long)) && (decide (p_now.Short ≥ p_was.Short))) && (decide (p_now.Open ≥ p_was.Open))))))) (E_p (by kernel_rfl)) rfl rfl ?_
      refine G_op [0] (v := (.val (.bool (!(((decide (p_now.Long ≥ p_was.Long)) && (decide (p_now.Short ≥ p_was.Short))) && (decide (p_now.Open ≥ p_was.Open))))))) (E_p (by kernel_rfl)) rfl rfl ?_
      refine G_nil ?_
      refine G_then ?_
      refine G_ret ?_
      refine G_retR ?_
      refine q_some fun hA => ?_
      show outV _ _ = some _
      kernel_rfl
    · refine q_two ((decide (p_now.Long ≥ p_was.Long)) && (decide (p_now.Short ≥ p_was.Short))) (fun h4 => ?_) (fun h4 => ?_)
      · refine G_subR (Sub_lit (t := 17) (v := true) rfl h4) ?_
        refine G_op [0] (v := (.box [1002] 2)) (E_p (by kernel_rfl)) rfl rfl ?_
        refine G_op [0] (v := (.val (.int .i64 p_now.Open))) (E_load (by kernel_rfl)) rfl rfl ?_
        refine G_op [0] (v := (.box [1001] 2)) (E_p (by kernel_rfl)) rfl rfl ?_
        refine G_op [0] (v := (.val (.int .i64 p_was.Open))) (E_load (by kernel_rfl)) rfl rfl ?_
        refine G_op [0] (v := (.val (.bool (decide (p_now.Open ≥ p_was.Open))))) (E_p (by kernel_rfl)) rfl rfl ?_
        refine G_op [0] (v := (.val (.bool (decide (p_now.Open ≥ p_was.Open))))) (E_p (by kernel_rfl)) rfl rfl ?_
        exact q_some fun h => RP_sub (by exact Sub_keep ⟨(Wk_and1 h4), .refl _, trivial⟩ trivial (by kernel_rfl) (by kernel_rfl)) h
      · refine G_subR (Sub_lit (t := 17) (v := false) rfl h4) ?_
        refine G_off rfl rfl ?_
        refine G_off rfl rfl ?_
        refine G_off rfl rfl ?_
        refine G_off rfl rfl ?_
        refine G_off rfl rfl ?_
        refine G_op [0] (v := (.val (.bool false))) (E_p (by kernel_rfl)) rfl rfl ?_
        exact q_some fun h => RP_sub (by exact Sub_keep ⟨(Wk_and0 h4), .refl _, trivial⟩ trivial (by kernel_rfl) (by kernel_rfl)) h
  · refine q_two (decide (p_now.Long ≥ p_was.Long)) (fun h1 => ?_) (fun h1 => ?_)
    · refine G_subR (Sub_lit (t := 10) (v := true) rfl h1) ?_
      refine G_op [0] (v := (.box [1002] 1)) (E_p (by kernel_rfl)) rfl rfl ?_
      refine G_op [0] (v := (.val (.int .i64 p_now.Short))) (E_load (by kernel_rfl)) rfl rfl ?_
      refine G_op [0] (v := (.box [1001] 1)) (E_p (by kernel_rfl)) rfl rfl ?_
      refine G_op [0] (v := (.val (.int .i64 p_was.Short))) (E_load (by kernel_rfl)) rfl rfl ?_
      refine G_op [0] (v := (.val (.bool (decide (p_now.Short ≥ p_was.Short))))) (E_p (by kernel_rfl)) rfl rfl ?_
      refine G_op [0] (v := (.val (.bool (decide (p_now.Short ≥ p_was.Short))))) (E_p (by kernel_rfl)) rfl rfl ?_
      exact q_some fun h => RP_sub (by exact Sub_env ⟨(Wk_and1 h1), .refl _, .refl _, .refl _, trivial⟩) h
    · refine G_subR (Sub_lit (t := 10) (v := false) rfl h1) ?_
      refine G_off rfl rfl ?_
      refine G_off rfl rfl ?_
      refine G_off rfl rfl ?_
      refine G_off rfl rfl ?_
      refine G_off rfl rfl ?_
      refine G_op [0] (v := (.val (.bool false))) (E_p (by kernel_rfl)) rfl rfl ?_
      exact q_some fun h => RP_sub (by exact Sub_env ⟨(Wk_and0 h1), .refl _, .refl _, .refl _, trivial⟩) h
theorem s29 (x0 : ExpoT) (x1 : ExpoT) (ds : List DV) (hd : List.map z1 ds = List.map z1 [.agg (e_ExpoT x0), .agg (e_ExpoT x1)]) : sp29 ds = (g_snaffleref09_Lowers x0 x1).map fun r => .bool r :=
  specT_at (ea := fun (a : ExpoT × ExpoT) => [.agg (e_ExpoT a.1), .agg (e_ExpoT a.2)]) (eb := fun (r : Bool) => .bool r) (g := fun (a : ExpoT × ExpoT) => g_snaffleref09_Lowers a.1 a.2) inj29 (x0, x1) hd

def k7_0 : ACode := (.region (⟨(some 7), (.a (.bx (.t 0))), none⟩ :: ⟨(some 8), (.a (.bx (.t 1))), none⟩ :: ⟨(some 9), (.a (.bx (.t 2))), none⟩ :: ⟨(some 14), (.p (.mv (.c (.bool false)))), none⟩ :: []))
def k7_1 : ACode := (.seq (.region (⟨(some 19), (.r (.call 19 [])), none⟩ :: ⟨(some 20), (.p (.un .not (.t 19))), none⟩ :: [])) (.cond (.t 20) (.seq (.region (⟨(some 14), (.p (.mv (.c (.bool false)))), none⟩ :: [])) .ret) .skip))
def k7_2 : ACode := (.seq (.region (⟨(some 21), (.p (.mv (.t 6))), none⟩ :: ⟨(some 22), (.p (.len (.t 21))), none⟩ :: ⟨(some 23), (.p (.bin .gtr (.t 22) (.c (.int .i64 100)))), none⟩ :: [])) (.cond (.t 23) (.seq (.region (⟨(some 14), (.p (.mv (.c (.bool true)))), none⟩ :: [])) .ret) .skip))
def k7_3 : ACode := (.region (⟨(some 25), (.p (.mv (.t 6))), none⟩ :: ⟨(some 26), (.r (.call 20 [(.t 25)])), none⟩ :: ⟨(some 24), (.p (.mv (.t 26))), none⟩ :: ⟨(some 27), (.p (.ext (.t 24) 0)), none⟩ :: ⟨(some 28), (.p (.ext (.t 24) 1)), none⟩ :: ⟨(some 15), (.p (.mv (.t 27))), none⟩ :: ⟨(some 16), (.p (.mv (.t 28))), none⟩ :: []))
def k7_4 : ACode := (.region (⟨(some 30), (.p (.mv (.t 6))), none⟩ :: ⟨(some 31), (.r (.call 21 [(.t 30)])), none⟩ :: ⟨(some 29), (.p (.mv (.t 31))), none⟩ :: ⟨(some 32), (.p (.ext (.t 29) 0)), none⟩ :: ⟨(some 33), (.p (.ext (.t 29) 1)), none⟩ :: ⟨(some 17), (.p (.mv (.t 32))), none⟩ :: ⟨(some 18), (.p (.mv (.t 33))), none⟩ :: []))
def k7_5 : ACode := (.draw (⟨(some 34), (.r (.load 3 true (.t 9))), none⟩ :: ⟨(some 35), (.r (.call 22 [(.t 34)])), none⟩ :: ⟨(some 36), (.r (.load 3 true (.t 9))), none⟩ :: ⟨(some 37), (.r (.call 23 [(.t 36)])), none⟩ :: ⟨(some 38), (.p (.eqb false (.t 35) (.t 37))), none⟩ :: ⟨(some 39), (.p (.mv (.t 38))), none⟩ :: ⟨(some 40), (.r (.load 3 true (.t 7))), (some (39, true))⟩ :: ⟨(some 41), (.r (.load 3 true (.t 8))), (some (39, true))⟩ :: ⟨(some 42), (.r (.load 3 true (.t 9))), (some (39, true))⟩ :: ⟨(some 43), (.r (.call 24 [(.t 40), (.t 41), (.t 42)])), (some (39, true))⟩ :: ⟨(some 44), (.r (.load 3 true (.t 7))), (some (39, true))⟩ :: ⟨(some 45), (.r (.load 3 true (.t 8))), (some (39, true))⟩ :: ⟨(some 46), (.r (.load 3 true (.t 9))), (some (39, true))⟩ :: ⟨(some 47), (.r (.call 25 [(.t 44), (.t 45), (.t 46)])), (some (39, true))⟩ :: ⟨(some 48), (.p (.eqb false (.t 43) (.t 47))), (some (39, true))⟩ :: ⟨(some 49), (.p (.pick (.t 39) (.t 48) (.c (.bool false)))), none⟩ :: ⟨(some 50), (.p (.mv (.t 49))), none⟩ :: ⟨(some 51), (.p (.mv (.t 3))), (some (50, true))⟩ :: ⟨(some 52), (.p (.mv (.t 4))), (some (50, true))⟩ :: ⟨(some 53), (.p (.mv (.t 5))), (some (50, true))⟩ :: ⟨(some 54), (.r (.call 26 [(.t 51), (.t 52), (.t 53)])), (some (50, true))⟩ :: ⟨(some 55), (.p (.mv (.t 3))), (some (50, true))⟩ :: ⟨(some 56), (.p (.mv (.t 4))), (some (50, true))⟩ :: ⟨(some 57), (.p (.mv (.t 5))), (some (50, true))⟩ :: ⟨(some 58), (.r (.call 27 [(.t 55), (.t 56), (.t 57)])), (some (50, true))⟩ :: ⟨(some 59), (.p (.eqb false (.t 54) (.t 58))), (some (50, true))⟩ :: ⟨(some 60), (.p (.pick (.t 50) (.t 59) (.c (.bool false)))), none⟩ :: ⟨(some 61), (.p (.mv (.t 60))), none⟩ :: ⟨(some 62), (.r (.load 3 true (.t 7))), (some (61, true))⟩ :: ⟨(some 63), (.r (.load 3 true (.t 8))), (some (61, true))⟩ :: ⟨(some 64), (.r (.call 28 [(.t 62), (.t 63)])), (some (61, true))⟩ :: ⟨(some 65), (.r (.load 3 true (.t 7))), (some (61, true))⟩ :: ⟨(some 66), (.r (.load 3 true (.t 8))), (some (61, true))⟩ :: ⟨(some 67), (.r (.call 29 [(.t 65), (.t 66)])), (some (61, true))⟩ :: ⟨(some 68), (.p (.eqb false (.t 64) (.t 67))), (some (61, true))⟩ :: ⟨(some 69), (.p (.pick (.t 61) (.t 68) (.c (.bool false)))), none⟩ :: ⟨(some 70), (.p (.mv (.t 69))), none⟩ :: ⟨(some 71), (.p (.mv (.t 15))), (some (70, true))⟩ :: ⟨(some 72), (.p (.mv (.t 17))), (some (70, true))⟩ :: ⟨(some 73), (.p (.bin .eql (.t 71) (.t 72))), (some (70, true))⟩ :: ⟨(some 74), (.p (.pick (.t 70) (.t 73) (.c (.bool false)))), none⟩ :: ⟨(some 75), (.p (.mv (.t 74))), none⟩ :: ⟨(some 76), (.p (.mv (.t 16))), (some (75, true))⟩ :: ⟨(some 77), (.p (.bin .eql (.t 76) (.c (.int .i64 0)))), (some (75, true))⟩ :: ⟨(some 78), (.p (.mv (.t 18))), (some (75, true))⟩ :: ⟨(some 79), (.p (.eqb false (.t 77) (.t 78))), (some (75, true))⟩ :: ⟨(some 80), (.p (.pick (.t 75) (.t 79) (.c (.bool false)))), none⟩ :: ⟨(some 81), (.p (.mv (.t 80))), none⟩ :: ⟨(some 82), (.p (.mv (.t 18))), (some (81, true))⟩ :: ⟨(some 83), (.p (.mv (.t 82))), (some (81, true))⟩ :: ⟨(some 84), (.p (.mv (.t 16))), (some (83, false))⟩ :: ⟨(some 85), (.p (.bin .eql (.t 84) (.c (.int .i64 3)))), (some (83, false))⟩ :: ⟨(some 86), (.p (.pick (.t 83) (.c (.bool true)) (.t 85))), (some (81, true))⟩ :: ⟨(some 87), (.p (.pick (.t 81) (.t 86) (.c (.bool false)))), none⟩ :: ⟨(some 14), (.p (.mv (.t 87))), none⟩ :: []))
def k7_6 : ACode := (.seq k7_5 .ret)
def k7_7 : ACode := (.seq k7_4 k7_6)
def k7_8 : ACode := (.seq k7_3 k7_7)
def k7_9 : ACode := (.seq k7_2 k7_8)
def k7_10 : ACode := (.seq k7_1 k7_9)
def cd7 : ACode := (.seq k7_0 k7_10)
def rs7 : List ARes := [(.tmp 14)]
def af7 : AFn := ⟨cd7, rs7, 88⟩
theorem c7 : compF Try.prog 7 = some af7 := by kernel_rfl
noncomputable def g_snafflelaw09_LimitRight (p_was : ExpoT) (p_now : ExpoT) (p_l : ExpoT) (p_a : Int) (p_b : Int) (p_c : Int) (p_cells : (List CellT)) : Option Bool := (Option.bind (g_snafflelaw09_awake) fun v1 => (bif (!v1) then (some false) else (bif (decide ((p_cells.length : Int) > 100)) then (some true) else (Option.bind (g_limit_Whole p_cells) fun v2 => (Option.bind (g_snaffleref09_Whole p_cells) fun v3 => (Option.bind ((Option.bind (g_limit_Right p_l) fun v6 => (Option.bind (g_snaffleref09_Right p_l) fun v7 => (bif (v6 == v7) then (Option.bind (g_limit_Against p_was p_now p_l) fun v10 => (Option.bind (g_snaffleref09_Against p_was p_now p_l) fun v11 => (bif (v10 == v11) then (Option.bind (g_limit_AgainstCap p_a p_b p_c) fun v14 => (Option.bind (g_snaffleref09_Cap p_a p_b p_c) fun v15 => (bif (v14 == v15) then (Option.bind (g_limit_Lowers p_was p_now) fun v18 => (Option.bind (g_snaffleref09_Lowers p_was p_now) fun v19 => (bif (v18 == v19) then (bif (v2.1 == v3.1) then (bif ((v2.2 == 0) == v3.2) then (bif v3.2 then (some true) else (some (v2.2 == 3))) else (some false)) else (some false)) else (some false)))) else (some false)))) else (some false)))) else (some false)))) : Option (Bool)) (fun (j4 : Bool) => (some j4))))))))
noncomputable def sp7 : List DV → Option DV := specT (fun (a : ExpoT × ExpoT × ExpoT × Int × Int × Int × (List CellT)) => [.agg (e_ExpoT a.1), .agg (e_ExpoT a.2.1), .agg (e_ExpoT a.2.2.1), .int .i64 a.2.2.2.1, .int .i64 a.2.2.2.2.1, .int .i64 a.2.2.2.2.2.1, .sl 4 (List.map e_CellT a.2.2.2.2.2.2)]) (fun (r : Bool) => .bool r) (fun (a : ExpoT × ExpoT × ExpoT × Int × Int × Int × (List CellT)) => g_snafflelaw09_LimitRight a.1 a.2.1 a.2.2.1 a.2.2.2.1 a.2.2.2.2.1 a.2.2.2.2.2.1 a.2.2.2.2.2.2)
theorem inj7 : ∀ (a b : ExpoT × ExpoT × ExpoT × Int × Int × Int × (List CellT)), List.map z1 ((fun (a : ExpoT × ExpoT × ExpoT × Int × Int × Int × (List CellT)) => [.agg (e_ExpoT a.1), .agg (e_ExpoT a.2.1), .agg (e_ExpoT a.2.2.1), .int .i64 a.2.2.2.1, .int .i64 a.2.2.2.2.1, .int .i64 a.2.2.2.2.2.1, .sl 4 (List.map e_CellT a.2.2.2.2.2.2)]) a) = List.map z1 ((fun (a : ExpoT × ExpoT × ExpoT × Int × Int × Int × (List CellT)) => [.agg (e_ExpoT a.1), .agg (e_ExpoT a.2.1), .agg (e_ExpoT a.2.2.1), .int .i64 a.2.2.2.1, .int .i64 a.2.2.2.2.1, .int .i64 a.2.2.2.2.2.1, .sl 4 (List.map e_CellT a.2.2.2.2.2.2)]) b) → a = b := by
  rintro ⟨a0, a1, a2, a3, a4, a5, a6⟩ ⟨b0, b1, b2, b3, b4, b5, b6⟩ h
  simp only [List.map_cons, List.map_nil, List.cons.injEq, and_true] at h
  obtain ⟨h0, h1, h2, h3, h4, h5, h6⟩ := h
  exact (pair_eq (e_ExpoT_inj (DV.agg.inj h0)) (pair_eq (e_ExpoT_inj (DV.agg.inj h1)) (pair_eq (e_ExpoT_inj (DV.agg.inj h2)) (pair_eq (DV.int.inj h3).2 (pair_eq (DV.int.inj h4).2 (pair_eq (DV.int.inj h5).2 (map_inj e_CellT_inj (z1_sl h6))))))))
set_option maxHeartbeats 1000000 in
theorem w7 {C : FuncId → Con} (hC : ConOk Try.prog C) {q19 : List DV → Option DV} (hc19 : C 19 = .val q19) (hs19 : ∀ (ds : List DV), List.map z1 ds = List.map z1 [] → q19 ds = (g_snafflelaw09_awake).map fun r => .bool r) {q20 : List DV → Option DV} (hc20 : C 20 = .val q20) (hs20 : ∀ (x0 : (List CellT)) (ds : List DV), List.map z1 ds = List.map z1 [.sl 4 (List.map e_CellT x0)] → q20 ds = (g_limit_Whole x0).map fun r => .tup [.int .i64 r.1, .int .i64 r.2]) {q21 : List DV → Option DV} (hc21 : C 21 = .val q21) (hs21 : ∀ (x0 : (List CellT)) (ds : List DV), List.map z1 ds = List.map z1 [.sl 4 (List.map e_CellT x0)] → q21 ds = (g_snaffleref09_Whole x0).map fun r => .tup [.int .i64 r.1, .bool r.2]) {q22 : List DV → Option DV} (hc22 : C 22 = .val q22) (hs22 : ∀ (x0 : ExpoT) (ds : List DV), List.map z1 ds = List.map z1 [.agg (e_ExpoT x0)] → q22 ds = (g_limit_Right x0).map fun r => .bool r) {q23 : List DV → Option DV} (hc23 : C 23 = .val q23) (hs23 : ∀ (x0 : ExpoT) (ds : List DV), List.map z1 ds = List.map z1 [.agg (e_ExpoT x0)] → q23 ds = (g_snaffleref09_Right x0).map fun r => .bool r) {q24 : List DV → Option DV} (hc24 : C 24 = .val q24) (hs24 : ∀ (x0 : ExpoT) (x1 : ExpoT) (x2 : ExpoT) (ds : List DV), List.map z1 ds = List.map z1 [.agg (e_ExpoT x0), .agg (e_ExpoT x1), .agg (e_ExpoT x2)] → q24 ds = (g_limit_Against x0 x1 x2).map fun r => .bool r) {q25 : List DV → Option DV} (hc25 : C 25 = .val q25) (hs25 : ∀ (x0 : ExpoT) (x1 : ExpoT) (x2 : ExpoT) (ds : List DV), List.map z1 ds = List.map z1 [.agg (e_ExpoT x0), .agg (e_ExpoT x1), .agg (e_ExpoT x2)] → q25 ds = (g_snaffleref09_Against x0 x1 x2).map fun r => .bool r) {q26 : List DV → Option DV} (hc26 : C 26 = .val q26) (hs26 : ∀ (x0 : Int) (x1 : Int) (x2 : Int) (ds : List DV), List.map z1 ds = List.map z1 [.int .i64 x0, .int .i64 x1, .int .i64 x2] → q26 ds = (g_limit_AgainstCap x0 x1 x2).map fun r => .bool r) {q27 : List DV → Option DV} (hc27 : C 27 = .val q27) (hs27 : ∀ (x0 : Int) (x1 : Int) (x2 : Int) (ds : List DV), List.map z1 ds = List.map z1 [.int .i64 x0, .int .i64 x1, .int .i64 x2] → q27 ds = (g_snaffleref09_Cap x0 x1 x2).map fun r => .bool r) {q28 : List DV → Option DV} (hc28 : C 28 = .val q28) (hs28 : ∀ (x0 : ExpoT) (x1 : ExpoT) (ds : List DV), List.map z1 ds = List.map z1 [.agg (e_ExpoT x0), .agg (e_ExpoT x1)] → q28 ds = (g_limit_Lowers x0 x1).map fun r => .bool r) {q29 : List DV → Option DV} (hc29 : C 29 = .val q29) (hs29 : ∀ (x0 : ExpoT) (x1 : ExpoT) (ds : List DV), List.map z1 ds = List.map z1 [.agg (e_ExpoT x0), .agg (e_ExpoT x1)] → q29 ds = (g_snaffleref09_Lowers x0 x1).map fun r => .bool r) : ValOk Try.prog 7 sp7 := by
  refine valT_of hC c7 _ _ _ inj7 ?_
  rintro ⟨p_was, p_now, p_l, p_a, p_b, p_c, p_cells⟩
  show Imq (g_snafflelaw09_LimitRight p_was p_now p_l p_a p_b p_c p_cells) (fun _ => True) fun r => WP Try.prog C (fun _ => False) cd7 (retQ fun s => outV s rs7 = some (.bool r)) ⟨⟨88, [(0, (.val (.agg [(.int .i64 p_was.Long), (.int .i64 p_was.Short), (.int .i64 p_was.Open)]))), (1, (.val (.agg [(.int .i64 p_now.Long), (.int .i64 p_now.Short), (.int .i64 p_now.Open)]))), (2, (.val (.agg [(.int .i64 p_l.Long), (.int .i64 p_l.Short), (.int .i64 p_l.Open)]))), (3, (.val (.int .i64 p_a))), (4, (.val (.int .i64 p_b))), (5, (.val (.int .i64 p_c))), (6, (.val (.sl 4 (List.map e_CellT p_cells))))]⟩, mkH []⟩
  unfold g_snafflelaw09_LimitRight
  refine G_seq ?_
  refine G_region ?_
  refine G_op [1001] (v := (.box [1001] 0)) (E_a (u := (.box [1001] 0)) (b := (.box [(.val (.int .i64 p_was.Long)), (.val (.int .i64 p_was.Short)), (.val (.int .i64 p_was.Open))])) (h' := [([1001], (.box [(.val (.int .i64 p_was.Long)), (.val (.int .i64 p_was.Short)), (.val (.int .i64 p_was.Open))]))]) (by kernel_rfl) (by kernel_rfl) (by kernel_rfl)) rfl rfl ?_
  refine G_op [1002] (v := (.box [1002] 0)) (E_a (u := (.box [1002] 0)) (b := (.box [(.val (.int .i64 p_now.Long)), (.val (.int .i64 p_now.Short)), (.val (.int .i64 p_now.Open))])) (h' := [([1001], (.box [(.val (.int .i64 p_was.Long)), (.val (.int .i64 p_was.Short)), (.val (.int .i64 p_was.Open))])), ([1002], (.box [(.val (.int .i64 p_now.Long)), (.val (.int .i64 p_now.Short)), (.val (.int .i64 p_now.Open))]))]) (by kernel_rfl) (by kernel_rfl) (by kernel_rfl)) rfl rfl ?_
  refine G_op [1003] (v := (.box [1003] 0)) (E_a (u := (.box [1003] 0)) (b := (.box [(.val (.int .i64 p_l.Long)), (.val (.int .i64 p_l.Short)), (.val (.int .i64 p_l.Open))])) (h' := [([1001], (.box [(.val (.int .i64 p_was.Long)), (.val (.int .i64 p_was.Short)), (.val (.int .i64 p_was.Open))])), ([1002], (.box [(.val (.int .i64 p_now.Long)), (.val (.int .i64 p_now.Short)), (.val (.int .i64 p_now.Open))])), ([1003], (.box [(.val (.int .i64 p_l.Long)), (.val (.int .i64 p_l.Short)), (.val (.int .i64 p_l.Open))]))]) (by kernel_rfl) (by kernel_rfl) (by kernel_rfl)) rfl rfl ?_
  refine G_op [0] (v := (.val (.bool false))) (E_p (by kernel_rfl)) rfl rfl ?_
  refine G_nil ?_
  refine G_then ?_
  refine G_seq ?_
  refine G_seq ?_
  refine G_region ?_
  refine q_bind fun v1 hv1 => ?_
  refine G_op [0] (v := (.val (.bool v1))) (E_call (ds := []) (r := .bool v1) hc19 (by kernel_rfl) ((hs19 _ (by kernel_rfl)).trans (congrArg _ hv1))) rfl rfl ?_
  refine G_op [0] (v := (.val (.bool (!v1)))) (E_p (by kernel_rfl)) rfl rfl ?_
  refine G_nil ?_
  refine G_then ?_
  refine G_cond (t := (!v1)) (by kernel_rfl) (fun _ => ?_) (fun _ => ?_)
  · refine G_seq ?_
    refine G_region ?_
    refine G_op [0] (v := (.val (.bool false))) (E_p (by kernel_rfl)) rfl rfl ?_
    refine G_nil ?_
    refine G_then ?_
    refine G_ret ?_
    refine G_thenR ?_
    refine G_retR ?_
    refine q_some fun hA => ?_
    show outV _ _ = some _
    kernel_rfl
  · refine G_skip ?_
    refine G_then ?_
    refine G_seq ?_
    refine G_seq ?_
    refine G_region ?_
    refine G_op [0] (v := (.val (.sl 4 (List.map e_CellT p_cells)))) (E_p (by kernel_rfl)) rfl rfl ?_
    refine G_op [0] (v := (.val (.int .i64 (p_cells.length : Int)))) (E_len (s := 4) (e := e_CellT) (xs := p_cells) (by kernel_rfl)) rfl rfl ?_
    refine G_op [0] (v := (.val (.bool (decide ((p_cells.length : Int) > 100))))) (E_p (by kernel_rfl)) rfl rfl ?_
    refine G_nil ?_
    refine G_then ?_
    refine G_cond (t := (decide ((p_cells.length : Int) > 100))) (by kernel_rfl) (fun _ => ?_) (fun _ => ?_)
    · refine G_seq ?_
      refine G_region ?_
      refine G_op [0] (v := (.val (.bool true))) (E_p (by kernel_rfl)) rfl rfl ?_
      refine G_nil ?_
      refine G_then ?_
      refine G_ret ?_
      refine G_thenR ?_
      refine G_retR ?_
      refine q_some fun hA => ?_
      show outV _ _ = some _
      kernel_rfl
    · refine G_skip ?_
      refine G_then ?_
      refine G_seq ?_
      refine G_region ?_
      refine G_op [0] (v := (.val (.sl 4 (List.map e_CellT p_cells)))) (E_p (by kernel_rfl)) rfl rfl ?_
      refine q_bind fun v2 hv2 => ?_
      refine G_op [0] (v := (.val (.tup [(.int .i64 v2.1), (.int .i64 v2.2)]))) (E_call (ds := [.sl 4 (List.map e_CellT p_cells)]) (r := .tup [.int .i64 v2.1, .int .i64 v2.2]) hc20 (by kernel_rfl) ((hs20 p_cells _ (by kernel_rfl)).trans (congrArg _ hv2))) rfl rfl ?_
      refine G_op [0] (v := (.val (.tup [(.int .i64 v2.1), (.int .i64 v2.2)]))) (E_p (by kernel_rfl)) rfl rfl ?_
      refine G_op [0] (v := (.val (.int .i64 v2.1))) (E_p (by kernel_rfl)) rfl rfl ?_
      refine G_op [0] (v := (.val (.int .i64 v2.2))) (E_p (by kernel_rfl)) rfl rfl ?_
      refine G_op [0] (v := (.val (.int .i64 v2.1))) (E_p (by kernel_rfl)) rfl rfl ?_
      refine G_op [0] (v := (.val (.int .i64 v2.2))) (E_p (by kernel_rfl)) rfl rfl ?_
      refine G_nil ?_
      refine G_then ?_
      refine G_subW (s0 := ⟨⟨88, [(16, (.val (.int .i64 v2.2))), (15, (.val (.int .i64 v2.1))), (14, (.val (.bool false))), (9, (.box [1003] 0)), (8, (.box [1002] 0)), (7, (.box [1001] 0)), (3, (.val (.int .i64 p_a))), (4, (.val (.int .i64 p_b))), (5, (.val (.int .i64 p_c))), (6, (.val (.sl 4 (List.map e_CellT p_cells))))]⟩, mkH [([1001], (.box [(.val (.int .i64 p_was.Long)), (.val (.int .i64 p_was.Short)), (.val (.int .i64 p_was.Open))])), ([1002], (.box [(.val (.int .i64 p_now.Long)), (.val (.int .i64 p_now.Short)), (.val (.int .i64 p_now.Open))])), ([1003], (.box [(.val (.int .i64 p_l.Long)), (.val (.int .i64 p_l.Short)), (.val (.int .i64 p_l.Open))]))]⟩) (by exact Sub_env ⟨.refl _, .refl _, .refl _, .refl _, .refl _, .refl _, .refl _, .refl _, .refl _, .refl _, trivial⟩) ?_
      refine G_seq ?_
      refine G_region ?_
      refine G_op [0] (v := (.val (.sl 4 (List.map e_CellT p_cells)))) (E_p (by kernel_rfl)) rfl rfl ?_
      refine q_bind fun v3 hv3 => ?_
      refine G_op [0] (v := (.val (.tup [(.int .i64 v3.1), (.bool v3.2)]))) (E_call (ds := [.sl 4 (List.map e_CellT p_cells)]) (r := .tup [.int .i64 v3.1, .bool v3.2]) hc21 (by kernel_rfl) ((hs21 p_cells _ (by kernel_rfl)).trans (congrArg _ hv3))) rfl rfl ?_
      refine G_op [0] (v := (.val (.tup [(.int .i64 v3.1), (.bool v3.2)]))) (E_p (by kernel_rfl)) rfl rfl ?_
      refine G_op [0] (v := (.val (.int .i64 v3.1))) (E_p (by kernel_rfl)) rfl rfl ?_
      refine G_op [0] (v := (.val (.bool v3.2))) (E_p (by kernel_rfl)) rfl rfl ?_
      refine G_op [0] (v := (.val (.int .i64 v3.1))) (E_p (by kernel_rfl)) rfl rfl ?_
      refine G_op [0] (v := (.val (.bool v3.2))) (E_p (by kernel_rfl)) rfl rfl ?_
      refine G_nil ?_
      refine G_then ?_
      refine G_seq ?_
      refine G_join (st := fun j4 => ⟨⟨88, [(14, (.val (.bool j4)))]⟩, mkH []⟩) (fun j4 => ?_) (fun r5 hr5 => ?_)
      · refine G_then ?_
        refine G_ret ?_
        refine G_retR ?_
        refine q_some fun hA => ?_
        show outV _ _ = some _
        kernel_rfl
      · refine G_draw ?_
        refine X_op (w := (.agg [(.val (.int .i64 p_l.Long)), (.val (.int .i64 p_l.Short)), (.val (.int .i64 p_l.Open))])) (v := (.agg [(.val (.int .i64 p_l.Long)), (.val (.int .i64 p_l.Short)), (.val (.int .i64 p_l.Open))])) (E_load (by kernel_rfl)) rfl rfl rfl ?_
        refine q_bind fun v6 hv6 => ?_
        refine X_op (w := (.val (.bool v6))) (v := (.val (.bool v6))) (E_callX (ds := [.agg (e_ExpoT p_l)]) (ids := []) (r := .bool v6) hc22 (by kernel_rfl) ((hs22 p_l _ (by kernel_rfl)).trans (congrArg _ hv6)) (by kernel_rfl)) rfl rfl rfl ?_
        refine X_op (w := (.agg [(.val (.int .i64 p_l.Long)), (.val (.int .i64 p_l.Short)), (.val (.int .i64 p_l.Open))])) (v := (.agg [(.val (.int .i64 p_l.Long)), (.val (.int .i64 p_l.Short)), (.val (.int .i64 p_l.Open))])) (E_load (by kernel_rfl)) rfl rfl rfl ?_
        refine q_bind fun v7 hv7 => ?_
        refine X_op (w := (.val (.bool v7))) (v := (.val (.bool v7))) (E_callX (ds := [.agg (e_ExpoT p_l)]) (ids := []) (r := .bool v7) hc23 (by kernel_rfl) ((hs23 p_l _ (by kernel_rfl)).trans (congrArg _ hv7)) (by kernel_rfl)) rfl rfl rfl ?_
        refine X_op (w := (.val (.bool (v6 == v7)))) (v := (.val (.bool (v6 == v7)))) (E_p (by kernel_rfl)) rfl rfl rfl ?_
        refine X_op (w := (.val (.bool (v6 == v7)))) (v := (.val (.bool (v6 == v7)))) (E_p (by kernel_rfl)) rfl rfl rfl ?_
        generalize h9 : (v6 == v7) = b8
        cases b8
        · refine q_cf ?_
          refine X_off (v := (.agg [(.val (.int .i64 p_was.Long)), (.val (.int .i64 p_was.Short)), (.val (.int .i64 p_was.Open))])) (by rfl) (by rfl) (E_load (by kernel_rfl)) rfl rfl ?_
          refine X_off (v := (.agg [(.val (.int .i64 p_now.Long)), (.val (.int .i64 p_now.Short)), (.val (.int .i64 p_now.Open))])) (by rfl) (by rfl) (E_load (by kernel_rfl)) rfl rfl ?_
          refine X_off (v := (.agg [(.val (.int .i64 p_l.Long)), (.val (.int .i64 p_l.Short)), (.val (.int .i64 p_l.Open))])) (by rfl) (by rfl) (E_load (by kernel_rfl)) rfl rfl ?_
          refine X_offC (by rfl) rfl rfl ?_
          refine X_off (v := (.agg [(.val (.int .i64 p_was.Long)), (.val (.int .i64 p_was.Short)), (.val (.int .i64 p_was.Open))])) (by rfl) (by rfl) (E_load (by kernel_rfl)) rfl rfl ?_
          refine X_off (v := (.agg [(.val (.int .i64 p_now.Long)), (.val (.int .i64 p_now.Short)), (.val (.int .i64 p_now.Open))])) (by rfl) (by rfl) (E_load (by kernel_rfl)) rfl rfl ?_
          refine X_off (v := (.agg [(.val (.int .i64 p_l.Long)), (.val (.int .i64 p_l.Short)), (.val (.int .i64 p_l.Open))])) (by rfl) (by rfl) (E_load (by kernel_rfl)) rfl rfl ?_
          refine X_offC (by rfl) rfl rfl ?_
          refine X_offN (by rfl) (by rfl) (by kernel_rfl) rfl rfl ?_
          refine X_op (w := (.val (.bool false))) (v := (.val (.bool false))) (E_pickF (by kernel_rfl) (by kernel_rfl)) rfl rfl rfl ?_
          refine X_op (w := (.val (.bool false))) (v := (.val (.bool false))) (E_p (by kernel_rfl)) rfl rfl rfl ?_
          refine X_off (v := (.val (.int .i64 p_a))) (by rfl) (by rfl) (E_p (by kernel_rfl)) rfl rfl ?_
          refine X_off (v := (.val (.int .i64 p_b))) (by rfl) (by rfl) (E_p (by kernel_rfl)) rfl rfl ?_
          refine X_off (v := (.val (.int .i64 p_c))) (by rfl) (by rfl) (E_p (by kernel_rfl)) rfl rfl ?_
          refine X_offC (by rfl) rfl rfl ?_
          refine X_off (v := (.val (.int .i64 p_a))) (by rfl) (by rfl) (E_p (by kernel_rfl)) rfl rfl ?_
          refine X_off (v := (.val (.int .i64 p_b))) (by rfl) (by rfl) (E_p (by kernel_rfl)) rfl rfl ?_
          refine X_off (v := (.val (.int .i64 p_c))) (by rfl) (by rfl) (E_p (by kernel_rfl)) rfl rfl ?_
          refine X_offC (by rfl) rfl rfl ?_
          refine X_offN (by rfl) (by rfl) (by kernel_rfl) rfl rfl ?_
          refine X_op (w := (.val (.bool false))) (v := (.val (.bool false))) (E_pickF (by kernel_rfl) (by kernel_rfl)) rfl rfl rfl ?_
          refine X_op (w := (.val (.bool false))) (v := (.val (.bool false))) (E_p (by kernel_rfl)) rfl rfl rfl ?_
          refine X_off (v := (.agg [(.val (.int .i64 p_was.Long)), (.val (.int .i64 p_was.Short)), (.val (.int .i64 p_was.Open))])) (by rfl) (by rfl) (E_load (by kernel_rfl)) rfl rfl ?_
          refine X_off (v := (.agg [(.val (.int .i64 p_now.Long)), (.val (.int .i64 p_now.Short)), (.val (.int .i64 p_now.Open))])) (by rfl) (by rfl) (E_load (by kernel_rfl)) rfl rfl ?_
          refine X_offC (by rfl) rfl rfl ?_
          refine X_off (v := (.agg [(.val (.int .i64 p_was.Long)), (.val (.int .i64 p_was.Short)), (.val (.int .i64 p_was.Open))])) (by rfl) (by rfl) (E_load (by kernel_rfl)) rfl rfl ?_
          refine X_off (v := (.agg [(.val (.int .i64 p_now.Long)), (.val (.int .i64 p_now.Short)), (.val (.int .i64 p_now.Open))])) (by rfl) (by rfl) (E_load (by kernel_rfl)) rfl rfl ?_
          refine X_offC (by rfl) rfl rfl ?_
          refine X_offN (by rfl) (by rfl) (by kernel_rfl) rfl rfl ?_
          refine X_op (w := (.val (.bool false))) (v := (.val (.bool false))) (E_pickF (by kernel_rfl) (by kernel_rfl)) rfl rfl rfl ?_
          refine X_op (w := (.val (.bool false))) (v := (.val (.bool false))) (E_p (by kernel_rfl)) rfl rfl rfl ?_
          refine X_off (v := (.val (.int .i64 v2.1))) (by rfl) (by rfl) (E_p (by kernel_rfl)) rfl rfl ?_
          refine X_off (v := (.val (.int .i64 v3.1))) (by rfl) (by rfl) (E_p (by kernel_rfl)) rfl rfl ?_
          refine X_off (v := (.val (.bool (v2.1 == v3.1)))) (by rfl) (by rfl) (E_p (by kernel_rfl)) rfl rfl ?_
          refine X_op (w := (.val (.bool false))) (v := (.val (.bool false))) (E_pickF (by kernel_rfl) (by kernel_rfl)) rfl rfl rfl ?_
          refine X_op (w := (.val (.bool false))) (v := (.val (.bool false))) (E_p (by kernel_rfl)) rfl rfl rfl ?_
          refine X_off (v := (.val (.int .i64 v2.2))) (by rfl) (by rfl) (E_p (by kernel_rfl)) rfl rfl ?_
          refine X_off (v := (.val (.bool (v2.2 == 0)))) (by rfl) (by rfl) (E_p (by kernel_rfl)) rfl rfl ?_
          refine X_off (v := (.val (.bool v3.2))) (by rfl) (by rfl) (E_p (by kernel_rfl)) rfl rfl ?_
          refine X_off (v := (.val (.bool ((v2.2 == 0) == v3.2)))) (by rfl) (by rfl) (E_p (by kernel_rfl)) rfl rfl ?_
          refine X_op (w := (.val (.bool false))) (v := (.val (.bool false))) (E_pickF (by kernel_rfl) (by kernel_rfl)) rfl rfl rfl ?_
          refine X_op (w := (.val (.bool false))) (v := (.val (.bool false))) (E_p (by kernel_rfl)) rfl rfl rfl ?_
          refine X_off (v := (.val (.bool v3.2))) (by rfl) (by rfl) (E_p (by kernel_rfl)) rfl rfl ?_
          refine X_off (v := (.val (.bool v3.2))) (by rfl) (by rfl) (E_p (by kernel_rfl)) rfl rfl ?_
          refine X_off (v := (.val (.int .i64 v2.2))) (by rfl) (by rfl) (E_p (by kernel_rfl)) rfl rfl ?_
          refine X_off (v := (.val (.bool (v2.2 == 3)))) (by rfl) (by rfl) (E_p (by kernel_rfl)) rfl rfl ?_
          refine X_off (v := (.val (.bool (bif v3.2 then true else (v2.2 == 3))))) (by rfl) (by rfl) (E_p (by kernel_rfl)) rfl rfl ?_
          refine X_op (w := (.val (.bool false))) (v := (.val (.bool false))) (E_pickF (by kernel_rfl) (by kernel_rfl)) rfl rfl rfl ?_
          refine X_op (w := (.val (.bool false))) (v := (.val (.bool false))) (E_p (by kernel_rfl)) rfl rfl rfl ?_
          refine X_nil (m := [(14, (.val (.bool false)))]) (by exact ⟨rfl, trivial⟩) ?_
          exact q_some fun h => (QN_then : QN _ _) _ _ (by exact Sub_keep ⟨.refl _, trivial⟩ trivial (by kernel_rfl) (by kernel_rfl)) h
        · refine q_ct ?_
          refine X_op (w := (.may true (.agg [(.val (.int .i64 p_was.Long)), (.val (.int .i64 p_was.Short)), (.val (.int .i64 p_was.Open))]))) (v := (.agg [(.val (.int .i64 p_was.Long)), (.val (.int .i64 p_was.Short)), (.val (.int .i64 p_was.Open))])) (E_load (by kernel_rfl)) rfl rfl rfl ?_
          refine X_op (w := (.may true (.agg [(.val (.int .i64 p_now.Long)), (.val (.int .i64 p_now.Short)), (.val (.int .i64 p_now.Open))]))) (v := (.agg [(.val (.int .i64 p_now.Long)), (.val (.int .i64 p_now.Short)), (.val (.int .i64 p_now.Open))])) (E_load (by kernel_rfl)) rfl rfl rfl ?_
          refine X_op (w := (.may true (.agg [(.val (.int .i64 p_l.Long)), (.val (.int .i64 p_l.Short)), (.val (.int .i64 p_l.Open))]))) (v := (.agg [(.val (.int .i64 p_l.Long)), (.val (.int .i64 p_l.Short)), (.val (.int .i64 p_l.Open))])) (E_load (by kernel_rfl)) rfl rfl rfl ?_
          refine q_bind fun v10 hv10 => ?_
          refine X_op (w := (.val (.bool v10))) (v := (.val (.bool v10))) (E_callX (ds := [.agg (e_ExpoT p_was), .agg (e_ExpoT p_now), .agg (e_ExpoT p_l)]) (ids := []) (r := .bool v10) hc24 (by kernel_rfl) ((hs24 p_was p_now p_l _ (by kernel_rfl)).trans (congrArg _ hv10)) (by kernel_rfl)) rfl rfl rfl ?_
          refine X_op (w := (.may true (.agg [(.val (.int .i64 p_was.Long)), (.val (.int .i64 p_was.Short)), (.val (.int .i64 p_was.Open))]))) (v := (.agg [(.val (.int .i64 p_was.Long)), (.val (.int .i64 p_was.Short)), (.val (.int .i64 p_was.Open))])) (E_load (by kernel_rfl)) rfl rfl rfl ?_
          refine X_op (w := (.may true (.agg [(.val (.int .i64 p_now.Long)), (.val (.int .i64 p_now.Short)), (.val (.int .i64 p_now.Open))]))) (v := (.agg [(.val (.int .i64 p_now.Long)), (.val (.int .i64 p_now.Short)), (.val (.int .i64 p_now.Open))])) (E_load (by kernel_rfl)) rfl rfl rfl ?_
          refine X_op (w := (.may true (.agg [(.val (.int .i64 p_l.Long)), (.val (.int .i64 p_l.Short)), (.val (.int .i64 p_l.Open))]))) (v := (.agg [(.val (.int .i64 p_l.Long)), (.val (.int .i64 p_l.Short)), (.val (.int .i64 p_l.Open))])) (E_load (by kernel_rfl)) rfl rfl rfl ?_
          refine q_bind fun v11 hv11 => ?_
          refine X_op (w := (.val (.bool v11))) (v := (.val (.bool v11))) (E_callX (ds := [.agg (e_ExpoT p_was), .agg (e_ExpoT p_now), .agg (e_ExpoT p_l)]) (ids := []) (r := .bool v11) hc25 (by kernel_rfl) ((hs25 p_was p_now p_l _ (by kernel_rfl)).trans (congrArg _ hv11)) (by kernel_rfl)) rfl rfl rfl ?_
          refine X_op (w := (.may true (.val (.bool (v10 == v11))))) (v := (.val (.bool (v10 == v11)))) (E_p (by kernel_rfl)) rfl rfl rfl ?_
          refine X_op (w := (.val (.bool (v10 == v11)))) (v := (.val (.bool (v10 == v11)))) (E_pickT (by kernel_rfl) (by kernel_rfl)) rfl rfl rfl ?_
          refine X_op (w := (.val (.bool (v10 == v11)))) (v := (.val (.bool (v10 == v11)))) (E_p (by kernel_rfl)) rfl rfl rfl ?_
          generalize h13 : (v10 == v11) = b12
          cases b12
          · refine q_cf ?_
            refine X_off (v := (.val (.int .i64 p_a))) (by rfl) (by rfl) (E_p (by kernel_rfl)) rfl rfl ?_
            refine X_off (v := (.val (.int .i64 p_b))) (by rfl) (by rfl) (E_p (by kernel_rfl)) rfl rfl ?_
            refine X_off (v := (.val (.int .i64 p_c))) (by rfl) (by rfl) (E_p (by kernel_rfl)) rfl rfl ?_
            refine X_offC (by rfl) rfl rfl ?_
            refine X_off (v := (.val (.int .i64 p_a))) (by rfl) (by rfl) (E_p (by kernel_rfl)) rfl rfl ?_
            refine X_off (v := (.val (.int .i64 p_b))) (by rfl) (by rfl) (E_p (by kernel_rfl)) rfl rfl ?_
            refine X_off (v := (.val (.int .i64 p_c))) (by rfl) (by rfl) (E_p (by kernel_rfl)) rfl rfl ?_
            refine X_offC (by rfl) rfl rfl ?_
            refine X_offN (by rfl) (by rfl) (by kernel_rfl) rfl rfl ?_
            refine X_op (w := (.val (.bool false))) (v := (.val (.bool false))) (E_pickF (by kernel_rfl) (by kernel_rfl)) rfl rfl rfl ?_
            refine X_op (w := (.val (.bool false))) (v := (.val (.bool false))) (E_p (by kernel_rfl)) rfl rfl rfl ?_
            refine X_off (v := (.agg [(.val (.int .i64 p_was.Long)), (.val (.int .i64 p_was.Short)), (.val (.int .i64 p_was.Open))])) (by rfl) (by rfl) (E_load (by kernel_rfl)) rfl rfl ?_
            refine X_off (v := (.agg [(.val (.int .i64 p_now.Long)), (.val (.int .i64 p_now.Short)), (.val (.int .i64 p_now.Open))])) (by rfl) (by rfl) (E_load (by kernel_rfl)) rfl rfl ?_
            refine X_offC (by rfl) rfl rfl ?_
            refine X_off (v := (.agg [(.val (.int .i64 p_was.Long)), (.val (.int .i64 p_was.Short)), (.val (.int .i64 p_was.Open))])) (by rfl) (by rfl) (E_load (by kernel_rfl)) rfl rfl ?_
            refine X_off (v := (.agg [(.val (.int .i64 p_now.Long)), (.val (.int .i64 p_now.Short)), (.val (.int .i64 p_now.Open))])) (by rfl) (by rfl) (E_load (by kernel_rfl)) rfl rfl ?_
            refine X_offC (by rfl) rfl rfl ?_
            refine X_offN (by rfl) (by rfl) (by kernel_rfl) rfl rfl ?_
            refine X_op (w := (.val (.bool false))) (v := (.val (.bool false))) (E_pickF (by kernel_rfl) (by kernel_rfl)) rfl rfl rfl ?_
            refine X_op (w := (.val (.bool false))) (v := (.val (.bool false))) (E_p (by kernel_rfl)) rfl rfl rfl ?_
            refine X_off (v := (.val (.int .i64 v2.1))) (by rfl) (by rfl) (E_p (by kernel_rfl)) rfl rfl ?_
            refine X_off (v := (.val (.int .i64 v3.1))) (by rfl) (by rfl) (E_p (by kernel_rfl)) rfl rfl ?_
            refine X_off (v := (.val (.bool (v2.1 == v3.1)))) (by rfl) (by rfl) (E_p (by kernel_rfl)) rfl rfl ?_
            refine X_op (w := (.val (.bool false))) (v := (.val (.bool false))) (E_pickF (by kernel_rfl) (by kernel_rfl)) rfl rfl rfl ?_
            refine X_op (w := (.val (.bool false))) (v := (.val (.bool false))) (E_p (by kernel_rfl)) rfl rfl rfl ?_
            refine X_off (v := (.val (.int .i64 v2.2))) (by rfl) (by rfl) (E_p (by kernel_rfl)) rfl rfl ?_
            refine X_off (v := (.val (.bool (v2.2 == 0)))) (by rfl) (by rfl) (E_p (by kernel_rfl)) rfl rfl ?_
            refine X_off (v := (.val (.bool v3.2))) (by rfl) (by rfl) (E_p (by kernel_rfl)) rfl rfl ?_
            refine X_off (v := (.val (.bool ((v2.2 == 0) == v3.2)))) (by rfl) (by rfl) (E_p (by kernel_rfl)) rfl rfl ?_
            refine X_op (w := (.val (.bool false))) (v := (.val (.bool false))) (E_pickF (by kernel_rfl) (by kernel_rfl)) rfl rfl rfl ?_
            refine X_op (w := (.val (.bool false))) (v := (.val (.bool false))) (E_p (by kernel_rfl)) rfl rfl rfl ?_
            refine X_off (v := (.val (.bool v3.2))) (by rfl) (by rfl) (E_p (by kernel_rfl)) rfl rfl ?_
            refine X_off (v := (.val (.bool v3.2))) (by rfl) (by rfl) (E_p (by kernel_rfl)) rfl rfl ?_
            refine X_off (v := (.val (.int .i64 v2.2))) (by rfl) (by rfl) (E_p (by kernel_rfl)) rfl rfl ?_
            refine X_off (v := (.val (.bool (v2.2 == 3)))) (by rfl) (by rfl) (E_p (by kernel_rfl)) rfl rfl ?_
            refine X_off (v := (.val (.bool (bif v3.2 then true else (v2.2 == 3))))) (by rfl) (by rfl) (E_p (by kernel_rfl)) rfl rfl ?_
            refine X_op (w := (.val (.bool false))) (v := (.val (.bool false))) (E_pickF (by kernel_rfl) (by kernel_rfl)) rfl rfl rfl ?_
            refine X_op (w := (.val (.bool false))) (v := (.val (.bool false))) (E_p (by kernel_rfl)) rfl rfl rfl ?_
            refine X_nil (m := [(14, (.val (.bool false)))]) (by exact ⟨rfl, trivial⟩) ?_
            exact q_some fun h => (QN_then : QN _ _) _ _ (by exact Sub_keep ⟨.refl _, trivial⟩ trivial (by kernel_rfl) (by kernel_rfl)) h
          · refine q_ct ?_
            refine X_op (w := (.may true (.val (.int .i64 p_a)))) (v := (.val (.int .i64 p_a))) (E_p (by kernel_rfl)) rfl rfl rfl ?_
            refine X_op (w := (.may true (.val (.int .i64 p_b)))) (v := (.val (.int .i64 p_b))) (E_p (by kernel_rfl)) rfl rfl rfl ?_
            refine X_op (w := (.may true (.val (.int .i64 p_c)))) (v := (.val (.int .i64 p_c))) (E_p (by kernel_rfl)) rfl rfl rfl ?_
            refine q_bind fun v14 hv14 => ?_
            refine X_op (w := (.val (.bool v14))) (v := (.val (.bool v14))) (E_callX (ds := [.int .i64 p_a, .int .i64 p_b, .int .i64 p_c]) (ids := []) (r := .bool v14) hc26 (by kernel_rfl) ((hs26 p_a p_b p_c _ (by kernel_rfl)).trans (congrArg _ hv14)) (by kernel_rfl)) rfl rfl rfl ?_
            refine X_op (w := (.may true (.val (.int .i64 p_a)))) (v := (.val (.int .i64 p_a))) (E_p (by kernel_rfl)) rfl rfl rfl ?_
            refine X_op (w := (.may true (.val (.int .i64 p_b)))) (v := (.val (.int .i64 p_b))) (E_p (by kernel_rfl)) rfl rfl rfl ?_
            refine X_op (w := (.may true (.val (.int .i64 p_c)))) (v := (.val (.int .i64 p_c))) (E_p (by kernel_rfl)) rfl rfl rfl ?_
            refine q_bind fun v15 hv15 => ?_
            refine X_op (w := (.val (.bool v15))) (v := (.val (.bool v15))) (E_callX (ds := [.int .i64 p_a, .int .i64 p_b, .int .i64 p_c]) (ids := []) (r := .bool v15) hc27 (by kernel_rfl) ((hs27 p_a p_b p_c _ (by kernel_rfl)).trans (congrArg _ hv15)) (by kernel_rfl)) rfl rfl rfl ?_
            refine X_op (w := (.may true (.val (.bool (v14 == v15))))) (v := (.val (.bool (v14 == v15)))) (E_p (by kernel_rfl)) rfl rfl rfl ?_
            refine X_op (w := (.val (.bool (v14 == v15)))) (v := (.val (.bool (v14 == v15)))) (E_pickT (by kernel_rfl) (by kernel_rfl)) rfl rfl rfl ?_
            refine X_op (w := (.val (.bool (v14 == v15)))) (v := (.val (.bool (v14 == v15)))) (E_p (by kernel_rfl)) rfl rfl rfl ?_
            generalize h17 : (v14 == v15) = b16
            cases b16
            · refine q_cf ?_
              refine X_off (v := (.agg [(.val (.int .i64 p_was.Long)), (.val (.int .i64 p_was.Short)), (.val (.int .i64 p_was.Open))])) (by rfl) (by rfl) (E_load (by kernel_rfl)) rfl rfl ?_
              refine X_off (v := (.agg [(.val (.int .i64 p_now.Long)), (.val (.int .i64 p_now.Short)), (.val (.int .i64 p_now.Open))])) (by rfl) (by rfl) (E_load (by kernel_rfl)) rfl rfl ?_
              refine X_offC (by rfl) rfl rfl ?_
              refine X_off (v := (.agg [(.val (.int .i64 p_was.Long)), (.val (.int .i64 p_was.Short)), (.val (.int .i64 p_was.Open))])) (by rfl) (by rfl) (E_load (by kernel_rfl)) rfl rfl ?_
              refine X_off (v := (.agg [(.val (.int .i64 p_now.Long)), (.val (.int .i64 p_now.Short)), (.val (.int .i64 p_now.Open))])) (by rfl) (by rfl) (E_load (by kernel_rfl)) rfl rfl ?_
              refine X_offC (by rfl) rfl rfl ?_
              refine X_offN (by rfl) (by rfl) (by kernel_rfl) rfl rfl ?_
              refine X_op (w := (.val (.bool false))) (v := (.val (.bool false))) (E_pickF (by kernel_rfl) (by kernel_rfl)) rfl rfl rfl ?_
              refine X_op (w := (.val (.bool false))) (v := (.val (.bool false))) (E_p (by kernel_rfl)) rfl rfl rfl ?_
              refine X_off (v := (.val (.int .i64 v2.1))) (by rfl) (by rfl) (E_p (by kernel_rfl)) rfl rfl ?_
              refine X_off (v := (.val (.int .i64 v3.1))) (by rfl) (by rfl) (E_p (by kernel_rfl)) rfl rfl ?_
              refine X_off (v := (.val (.bool (v2.1 == v3.1)))) (by rfl) (by rfl) (E_p (by kernel_rfl)) rfl rfl ?_
              refine X_op (w := (.val (.bool false))) (v := (.val (.bool false))) (E_pickF (by kernel_rfl) (by kernel_rfl)) rfl rfl rfl ?_
              refine X_op (w := (.val (.bool false))) (v := (.val (.bool false))) (E_p (by kernel_rfl)) rfl rfl rfl ?_
              refine X_off (v := (.val (.int .i64 v2.2))) (by rfl) (by rfl) (E_p (by kernel_rfl)) rfl rfl ?_
              refine X_off (v := (.val (.bool (v2.2 == 0)))) (by rfl) (by rfl) (E_p (by kernel_rfl)) rfl rfl ?_
              refine X_off (v := (.val (.bool v3.2))) (by rfl) (by rfl) (E_p (by kernel_rfl)) rfl rfl ?_
              refine X_off (v := (.val (.bool ((v2.2 == 0) == v3.2)))) (by rfl) (by rfl) (E_p (by kernel_rfl)) rfl rfl ?_
              refine X_op (w := (.val (.bool false))) (v := (.val (.bool false))) (E_pickF (by kernel_rfl) (by kernel_rfl)) rfl rfl rfl ?_
              refine X_op (w := (.val (.bool false))) (v := (.val (.bool false))) (E_p (by kernel_rfl)) rfl rfl rfl ?_
              refine X_off (v := (.val (.bool v3.2))) (by rfl) (by rfl) (E_p (by kernel_rfl)) rfl rfl ?_
              refine X_off (v := (.val (.bool v3.2))) (by rfl) (by rfl) (E_p (by kernel_rfl)) rfl rfl ?_
              refine X_off (v := (.val (.int .i64 v2.2))) (by rfl) (by rfl) (E_p (by kernel_rfl)) rfl rfl ?_
              refine X_off (v := (.val (.bool (v2.2 == 3)))) (by rfl) (by rfl) (E_p (by kernel_rfl)) rfl rfl ?_
              refine X_off (v := (.val (.bool (bif v3.2 then true else (v2.2 == 3))))) (by rfl) (by rfl) (E_p (by kernel_rfl)) rfl rfl ?_
              refine X_op (w := (.val (.bool false))) (v := (.val (.bool false))) (E_pickF (by kernel_rfl) (by kernel_rfl)) rfl rfl rfl ?_
              refine X_op (w := (.val (.bool false))) (v := (.val (.bool false))) (E_p (by kernel_rfl)) rfl rfl rfl ?_
              refine X_nil (m := [(14, (.val (.bool false)))]) (by exact ⟨rfl, trivial⟩) ?_
              exact q_some fun h => (QN_then : QN _ _) _ _ (by exact Sub_keep ⟨.refl _, trivial⟩ trivial (by kernel_rfl) (by kernel_rfl)) h
            · refine q_ct ?_
              refine X_op (w := (.may true (.agg [(.val (.int .i64 p_was.Long)), (.val (.int .i64 p_was.Short)), (.val (.int .i64 p_was.Open))]))) (v := (.agg [(.val (.int .i64 p_was.Long)), (.val (.int .i64 p_was.Short)), (.val (.int .i64 p_was.Open))])) (E_load (by kernel_rfl)) rfl rfl rfl ?_
              refine X_op (w := (.may true (.agg [(.val (.int .i64 p_now.Long)), (.val (.int .i64 p_now.Short)), (.val (.int .i64 p_now.Open))]))) (v := (.agg [(.val (.int .i64 p_now.Long)), (.val (.int .i64 p_now.Short)), (.val (.int .i64 p_now.Open))])) (E_load (by kernel_rfl)) rfl rfl rfl ?_
              refine q_bind fun v18 hv18 => ?_
              refine X_op (w := (.val (.bool v18))) (v := (.val (.bool v18))) (E_callX (ds := [.agg (e_ExpoT p_was), .agg (e_ExpoT p_now)]) (ids := []) (r := .bool v18) hc28 (by kernel_rfl) ((hs28 p_was p_now _ (by kernel_rfl)).trans (congrArg _ hv18)) (by kernel_rfl)) rfl rfl rfl ?_
              refine X_op (w := (.may true (.agg [(.val (.int .i64 p_was.Long)), (.val (.int .i64 p_was.Short)), (.val (.int .i64 p_was.Open))]))) (v := (.agg [(.val (.int .i64 p_was.Long)), (.val (.int .i64 p_was.Short)), (.val (.int .i64 p_was.Open))])) (E_load (by kernel_rfl)) rfl rfl rfl ?_
              refine X_op (w := (.may true (.agg [(.val (.int .i64 p_now.Long)), (.val (.int .i64 p_now.Short)), (.val (.int .i64 p_now.Open))]))) (v := (.agg [(.val (.int .i64 p_now.Long)), (.val (.int .i64 p_now.Short)), (.val (.int .i64 p_now.Open))])) (E_load (by kernel_rfl)) rfl rfl rfl ?_
              refine q_bind fun v19 hv19 => ?_
              refine X_op (w := (.val (.bool v19))) (v := (.val (.bool v19))) (E_callX (ds := [.agg (e_ExpoT p_was), .agg (e_ExpoT p_now)]) (ids := []) (r := .bool v19) hc29 (by kernel_rfl) ((hs29 p_was p_now _ (by kernel_rfl)).trans (congrArg _ hv19)) (by kernel_rfl)) rfl rfl rfl ?_
              refine X_op (w := (.may true (.val (.bool (v18 == v19))))) (v := (.val (.bool (v18 == v19)))) (E_p (by kernel_rfl)) rfl rfl rfl ?_
              refine X_op (w := (.val (.bool (v18 == v19)))) (v := (.val (.bool (v18 == v19)))) (E_pickT (by kernel_rfl) (by kernel_rfl)) rfl rfl rfl ?_
              refine X_op (w := (.val (.bool (v18 == v19)))) (v := (.val (.bool (v18 == v19)))) (E_p (by kernel_rfl)) rfl rfl rfl ?_
              generalize h21 : (v18 == v19) = b20
              cases b20
              · refine q_cf ?_
                refine X_off (v := (.val (.int .i64 v2.1))) (by rfl) (by rfl) (E_p (by kernel_rfl)) rfl rfl ?_
                refine X_off (v := (.val (.int .i64 v3.1))) (by rfl) (by rfl) (E_p (by kernel_rfl)) rfl rfl ?_
                refine X_off (v := (.val (.bool (v2.1 == v3.1)))) (by rfl) (by rfl) (E_p (by kernel_rfl)) rfl rfl ?_
                refine X_op (w := (.val (.bool false))) (v := (.val (.bool false))) (E_pickF (by kernel_rfl) (by kernel_rfl)) rfl rfl rfl ?_
                refine X_op (w := (.val (.bool false))) (v := (.val (.bool false))) (E_p (by kernel_rfl)) rfl rfl rfl ?_
                refine X_off (v := (.val (.int .i64 v2.2))) (by rfl) (by rfl) (E_p (by kernel_rfl)) rfl rfl ?_
                refine X_off (v := (.val (.bool (v2.2 == 0)))) (by rfl) (by rfl) (E_p (by kernel_rfl)) rfl rfl ?_
                refine X_off (v := (.val (.bool v3.2))) (by rfl) (by rfl) (E_p (by kernel_rfl)) rfl rfl ?_
                refine X_off (v := (.val (.bool ((v2.2 == 0) == v3.2)))) (by rfl) (by rfl) (E_p (by kernel_rfl)) rfl rfl ?_
                refine X_op (w := (.val (.bool false))) (v := (.val (.bool false))) (E_pickF (by kernel_rfl) (by kernel_rfl)) rfl rfl rfl ?_
                refine X_op (w := (.val (.bool false))) (v := (.val (.bool false))) (E_p (by kernel_rfl)) rfl rfl rfl ?_
                refine X_off (v := (.val (.bool v3.2))) (by rfl) (by rfl) (E_p (by kernel_rfl)) rfl rfl ?_
                refine X_off (v := (.val (.bool v3.2))) (by rfl) (by rfl) (E_p (by kernel_rfl)) rfl rfl ?_
                refine X_off (v := (.val (.int .i64 v2.2))) (by rfl) (by rfl) (E_p (by kernel_rfl)) rfl rfl ?_
                refine X_off (v := (.val (.bool (v2.2 == 3)))) (by rfl) (by rfl) (E_p (by kernel_rfl)) rfl rfl ?_
                refine X_off (v := (.val (.bool (bif v3.2 then true else (v2.2 == 3))))) (by rfl) (by rfl) (E_p (by kernel_rfl)) rfl rfl ?_
                refine X_op (w := (.val (.bool false))) (v := (.val (.bool false))) (E_pickF (by kernel_rfl) (by kernel_rfl)) rfl rfl rfl ?_
                refine X_op (w := (.val (.bool false))) (v := (.val (.bool false))) (E_p (by kernel_rfl)) rfl rfl rfl ?_
                refine X_nil (m := [(14, (.val (.bool false)))]) (by exact ⟨rfl, trivial⟩) ?_
                exact q_some fun h => (QN_then : QN _ _) _ _ (by exact Sub_keep ⟨.refl _, trivial⟩ trivial (by kernel_rfl) (by kernel_rfl)) h
              · refine q_ct ?_
                refine X_op (w := (.may true (.val (.int .i64 v2.1)))) (v := (.val (.int .i64 v2.1))) (E_p (by kernel_rfl)) rfl rfl rfl ?_
                refine X_op (w := (.may true (.val (.int .i64 v3.1)))) (v := (.val (.int .i64 v3.1))) (E_p (by kernel_rfl)) rfl rfl rfl ?_
                refine X_op (w := (.may true (.val (.bool (v2.1 == v3.1))))) (v := (.val (.bool (v2.1 == v3.1)))) (E_p (by kernel_rfl)) rfl rfl rfl ?_
                refine X_op (w := (.val (.bool (v2.1 == v3.1)))) (v := (.val (.bool (v2.1 == v3.1)))) (E_pickT (by kernel_rfl) (by kernel_rfl)) rfl rfl rfl ?_
                refine X_op (w := (.val (.bool (v2.1 == v3.1)))) (v := (.val (.bool (v2.1 == v3.1)))) (E_p (by kernel_rfl)) rfl rfl rfl ?_
                generalize h23 : (v2.1 == v3.1) = b22
                cases b22
                · refine q_cf ?_
                  refine X_off (v := (.val (.int .i64 v2.2))) (by rfl) (by rfl) (E_p (by kernel_rfl)) rfl rfl ?_
                  refine X_off (v := (.val (.bool (v2.2 == 0)))) (by rfl) (by rfl) (E_p (by kernel_rfl)) rfl rfl ?_
                  refine X_off (v := (.val (.bool v3.2))) (by rfl) (by rfl) (E_p (by kernel_rfl)) rfl rfl ?_
                  refine X_off (v := (.val (.bool ((v2.2 == 0) == v3.2)))) (by rfl) (by rfl) (E_p (by kernel_rfl)) rfl rfl ?_
                  refine X_op (w := (.val (.bool false))) (v := (.val (.bool false))) (E_pickF (by kernel_rfl) (by kernel_rfl)) rfl rfl rfl ?_
                  refine X_op (w := (.val (.bool false))) (v := (.val (.bool false))) (E_p (by kernel_rfl)) rfl rfl rfl ?_
                  refine X_off (v := (.val (.bool v3.2))) (by rfl) (by rfl) (E_p (by kernel_rfl)) rfl rfl ?_
                  refine X_off (v := (.val (.bool v3.2))) (by rfl) (by rfl) (E_p (by kernel_rfl)) rfl rfl ?_
                  refine X_off (v := (.val (.int .i64 v2.2))) (by rfl) (by rfl) (E_p (by kernel_rfl)) rfl rfl ?_
                  refine X_off (v := (.val (.bool (v2.2 == 3)))) (by rfl) (by rfl) (E_p (by kernel_rfl)) rfl rfl ?_
                  refine X_off (v := (.val (.bool (bif v3.2 then true else (v2.2 == 3))))) (by rfl) (by rfl) (E_p (by kernel_rfl)) rfl rfl ?_
                  refine X_op (w := (.val (.bool false))) (v := (.val (.bool false))) (E_pickF (by kernel_rfl) (by kernel_rfl)) rfl rfl rfl ?_
                  refine X_op (w := (.val (.bool false))) (v := (.val (.bool false))) (E_p (by kernel_rfl)) rfl rfl rfl ?_
                  refine X_nil (m := [(14, (.val (.bool false)))]) (by exact ⟨rfl, trivial⟩) ?_
                  exact q_some fun h => (QN_then : QN _ _) _ _ (by exact Sub_keep ⟨.refl _, trivial⟩ trivial (by kernel_rfl) (by kernel_rfl)) h
                · refine q_ct ?_
                  refine X_op (w := (.may true (.val (.int .i64 v2.2)))) (v := (.val (.int .i64 v2.2))) (E_p (by kernel_rfl)) rfl rfl rfl ?_
                  refine X_op (w := (.may true (.val (.bool (v2.2 == 0))))) (v := (.val (.bool (v2.2 == 0)))) (E_p (by kernel_rfl)) rfl rfl rfl ?_
                  refine X_op (w := (.may true (.val (.bool v3.2)))) (v := (.val (.bool v3.2))) (E_p (by kernel_rfl)) rfl rfl rfl ?_
                  refine X_op (w := (.may true (.val (.bool ((v2.2 == 0) == v3.2))))) (v := (.val (.bool ((v2.2 == 0) == v3.2)))) (E_p (by kernel_rfl)) rfl rfl rfl ?_
                  refine X_op (w := (.val (.bool ((v2.2 == 0) == v3.2)))) (v := (.val (.bool ((v2.2 == 0) == v3.2)))) (E_pickT (by kernel_rfl) (by kernel_rfl)) rfl rfl rfl ?_
                  refine X_op (w := (.val (.bool ((v2.2 == 0) == v3.2)))) (v := (.val (.bool ((v2.2 == 0) == v3.2)))) (E_p (by kernel_rfl)) rfl rfl rfl ?_
                  generalize h25 : ((v2.2 == 0) == v3.2) = b24
                  cases b24
                  · refine q_cf ?_
                    refine X_off (v := (.val (.bool v3.2))) (by rfl) (by rfl) (E_p (by kernel_rfl)) rfl rfl ?_
                    refine X_off (v := (.val (.bool v3.2))) (by rfl) (by rfl) (E_p (by kernel_rfl)) rfl rfl ?_
                    refine X_off (v := (.val (.int .i64 v2.2))) (by rfl) (by rfl) (E_p (by kernel_rfl)) rfl rfl ?_
                    refine X_off (v := (.val (.bool (v2.2 == 3)))) (by rfl) (by rfl) (E_p (by kernel_rfl)) rfl rfl ?_
                    refine X_off (v := (.val (.bool (bif v3.2 then true else (v2.2 == 3))))) (by rfl) (by rfl) (E_p (by kernel_rfl)) rfl rfl ?_
                    refine X_op (w := (.val (.bool false))) (v := (.val (.bool false))) (E_pickF (by kernel_rfl) (by kernel_rfl)) rfl rfl rfl ?_
                    refine X_op (w := (.val (.bool false))) (v := (.val (.bool false))) (E_p (by kernel_rfl)) rfl rfl rfl ?_
                    refine X_nil (m := [(14, (.val (.bool false)))]) (by exact ⟨rfl, trivial⟩) ?_
                    exact q_some fun h => (QN_then : QN _ _) _ _ (by exact Sub_keep ⟨.refl _, trivial⟩ trivial (by kernel_rfl) (by kernel_rfl)) h
                  · refine q_ct ?_
                    refine X_op (w := (.may true (.val (.bool v3.2)))) (v := (.val (.bool v3.2))) (E_p (by kernel_rfl)) rfl rfl rfl ?_
                    refine X_op (w := (.may true (.val (.bool v3.2)))) (v := (.val (.bool v3.2))) (E_p (by kernel_rfl)) rfl rfl rfl ?_
                    generalize h27 : v3.2 = b26
                    cases b26
                    · refine q_cf ?_
                      refine X_op (w := (.may true (.val (.int .i64 v2.2)))) (v := (.val (.int .i64 v2.2))) (E_p (by kernel_rfl)) rfl rfl rfl ?_
                      refine X_op (w := (.may true (.val (.bool (v2.2 == 3))))) (v := (.val (.bool (v2.2 == 3)))) (E_p (by kernel_rfl)) rfl rfl rfl ?_
                      refine X_op (w := (.may true (.val (.bool (v2.2 == 3))))) (v := (.val (.bool (v2.2 == 3)))) (E_pickF (by kernel_rfl) (by kernel_rfl)) rfl rfl rfl ?_
                      refine X_op (w := (.val (.bool (v2.2 == 3)))) (v := (.val (.bool (v2.2 == 3)))) (E_pickT (by kernel_rfl) (by kernel_rfl)) rfl rfl rfl ?_
                      refine X_op (w := (.val (.bool (v2.2 == 3)))) (v := (.val (.bool (v2.2 == 3)))) (E_p (by kernel_rfl)) rfl rfl rfl ?_
                      refine X_nil (m := [(14, (.val (.bool (v2.2 == 3))))]) (by exact ⟨rfl, trivial⟩) ?_
                      exact q_some fun h => (QN_then : QN _ _) _ _ (by exact Sub_keep ⟨.refl _, trivial⟩ trivial (by kernel_rfl) (by kernel_rfl)) h
                    · refine q_ct ?_
                      refine X_off (v := (.val (.int .i64 v2.2))) (by rfl) (by rfl) (E_p (by kernel_rfl)) rfl rfl ?_
                      refine X_off (v := (.val (.bool (v2.2 == 3)))) (by rfl) (by rfl) (E_p (by kernel_rfl)) rfl rfl ?_
                      refine X_op (w := (.may true (.val (.bool true)))) (v := (.val (.bool true))) (E_pickT (by kernel_rfl) (by kernel_rfl)) rfl rfl rfl ?_
                      refine X_op (w := (.val (.bool true))) (v := (.val (.bool true))) (E_pickT (by kernel_rfl) (by kernel_rfl)) rfl rfl rfl ?_
                      refine X_op (w := (.val (.bool true))) (v := (.val (.bool true))) (E_p (by kernel_rfl)) rfl rfl rfl ?_
                      refine X_nil (m := [(14, (.val (.bool true)))]) (by exact ⟨rfl, trivial⟩) ?_
                      exact q_some fun h => (QN_then : QN _ _) _ _ (by exact Sub_keep ⟨.refl _, trivial⟩ trivial (by kernel_rfl) (by kernel_rfl)) h
theorem s7 (x0 : ExpoT) (x1 : ExpoT) (x2 : ExpoT) (x3 : Int) (x4 : Int) (x5 : Int) (x6 : (List CellT)) (ds : List DV) (hd : List.map z1 ds = List.map z1 [.agg (e_ExpoT x0), .agg (e_ExpoT x1), .agg (e_ExpoT x2), .int .i64 x3, .int .i64 x4, .int .i64 x5, .sl 4 (List.map e_CellT x6)]) : sp7 ds = (g_snafflelaw09_LimitRight x0 x1 x2 x3 x4 x5 x6).map fun r => .bool r :=
  specT_at (ea := fun (a : ExpoT × ExpoT × ExpoT × Int × Int × Int × (List CellT)) => [.agg (e_ExpoT a.1), .agg (e_ExpoT a.2.1), .agg (e_ExpoT a.2.2.1), .int .i64 a.2.2.2.1, .int .i64 a.2.2.2.2.1, .int .i64 a.2.2.2.2.2.1, .sl 4 (List.map e_CellT a.2.2.2.2.2.2)]) (eb := fun (r : Bool) => .bool r) (g := fun (a : ExpoT × ExpoT × ExpoT × Int × Int × Int × (List CellT)) => g_snafflelaw09_LimitRight a.1 a.2.1 a.2.2.1 a.2.2.2.1 a.2.2.2.2.1 a.2.2.2.2.2.1 a.2.2.2.2.2.2) inj7 (x0, x1, x2, x3, x4, x5, x6) hd

def t8_2 : List AIns := (⟨(some 12), (.p (.mv (.t 83))), none⟩ :: [])
def t8_1 : List AIns := (⟨(some 74), (.p (.mv (.t 73))), none⟩ :: ⟨(some 75), (.p (.mv (.t 19))), (some (74, false))⟩ :: ⟨(some 76), (.p (.bin .neq (.t 75) (.c (.int .i64 0)))), (some (74, false))⟩ :: ⟨(some 77), (.p (.pick (.t 74) (.c (.bool true)) (.t 76))), none⟩ :: [])
def t8_0 : List AIns := (⟨(some 37), (.p (.mv (.t 36))), none⟩ :: ⟨(some 38), (.r (.load 3 true (.t 6))), (some (37, true))⟩ :: ⟨(some 39), (.r (.load 3 true (.t 8))), (some (37, true))⟩ :: ⟨(some 40), (.r (.load 3 true (.t 9))), (some (37, true))⟩ :: ⟨(some 41), (.r (.call 24 [(.t 38), (.t 39), (.t 40)])), (some (37, true))⟩ :: ⟨(some 42), (.p (.pick (.t 37) (.t 41) (.c (.bool false)))), none⟩ :: [])
def k8_0 : ACode := (.region (⟨(some 6), (.a (.bx (.t 0))), none⟩ :: ⟨(some 7), (.a (.bx (.t 1))), none⟩ :: ⟨(some 8), (.a (.bx (.t 2))), none⟩ :: ⟨(some 9), (.a (.bx (.t 3))), none⟩ :: ⟨(some 12), (.p (.mv (.c (.bool false)))), none⟩ :: []))
def k8_1 : ACode := (.seq (.region (⟨(some 20), (.r (.call 19 [])), none⟩ :: ⟨(some 21), (.p (.un .not (.t 20))), none⟩ :: [])) (.cond (.t 21) (.seq (.region (⟨(some 12), (.p (.mv (.c (.bool false)))), none⟩ :: [])) .ret) .skip))
def k8_2 : ACode := (.seq (.region (⟨(some 22), (.p (.mv (.t 4))), none⟩ :: ⟨(some 23), (.p (.len (.t 22))), none⟩ :: ⟨(some 24), (.p (.bin .gtr (.t 23) (.c (.int .i64 100)))), none⟩ :: [])) (.cond (.t 24) (.seq (.region (⟨(some 12), (.p (.mv (.c (.bool true)))), none⟩ :: [])) .ret) .skip))
def k8_3 : ACode := (.region (⟨(some 25), (.r (.load 3 true (.t 6))), none⟩ :: ⟨(some 26), (.r (.load 3 true (.t 7))), none⟩ :: ⟨(some 27), (.r (.load 3 true (.t 9))), none⟩ :: ⟨(some 28), (.r (.call 24 [(.t 25), (.t 26), (.t 27)])), none⟩ :: ⟨(some 29), (.p (.un .not (.t 28))), none⟩ :: ⟨(some 30), (.p (.mv (.t 29))), none⟩ :: ⟨(some 31), (.r (.load 3 true (.t 7))), (some (30, true))⟩ :: ⟨(some 32), (.r (.load 3 true (.t 8))), (some (30, true))⟩ :: ⟨(some 33), (.r (.load 3 true (.t 9))), (some (30, true))⟩ :: ⟨(some 34), (.r (.call 24 [(.t 31), (.t 32), (.t 33)])), (some (30, true))⟩ :: ⟨(some 35), (.p (.un .not (.t 34))), (some (30, true))⟩ :: ⟨(some 36), (.p (.pick (.t 30) (.t 35) (.c (.bool false)))), none⟩ :: t8_0))
def k8_4 : ACode := (.seq k8_3 (.cond (.t 42) (.seq (.region (⟨(some 12), (.p (.mv (.c (.bool false)))), none⟩ :: [])) .ret) .skip))
def k8_5 : ACode := (.region (⟨(some 43), (.p (.mv (.t 5))), none⟩ :: ⟨(some 44), (.p (.conv .i64 (.t 43))), none⟩ :: ⟨(some 45), (.p (.mv (.t 4))), none⟩ :: ⟨(some 46), (.p (.len (.t 45))), none⟩ :: ⟨(some 47), (.p (.bin .add (.t 46) (.c (.int .i64 1)))), none⟩ :: ⟨(some 48), (.p (.bin .rem (.t 44) (.t 47))), none⟩ :: ⟨(some 13), (.p (.mv (.t 48))), none⟩ :: []))
def k8_6 : ACode := (.region (⟨(some 50), (.p (.mv (.t 4))), none⟩ :: ⟨(some 51), (.r (.call 20 [(.t 50)])), none⟩ :: ⟨(some 49), (.p (.mv (.t 51))), none⟩ :: ⟨(some 52), (.p (.ext (.t 49) 0)), none⟩ :: ⟨(some 53), (.p (.ext (.t 49) 1)), none⟩ :: ⟨(some 14), (.p (.mv (.t 52))), none⟩ :: ⟨(some 15), (.p (.mv (.t 53))), none⟩ :: []))
def k8_7 : ACode := (.region (⟨(some 55), (.p (.mv (.t 4))), none⟩ :: ⟨(some 56), (.p (.mv (.t 13))), none⟩ :: ⟨(some 57), (.p (.slice 4 (.t 55) none (some (.t 56)) none)), none⟩ :: ⟨(some 58), (.r (.call 20 [(.t 57)])), none⟩ :: ⟨(some 54), (.p (.mv (.t 58))), none⟩ :: ⟨(some 59), (.p (.ext (.t 54) 0)), none⟩ :: ⟨(some 60), (.p (.ext (.t 54) 1)), none⟩ :: ⟨(some 16), (.p (.mv (.t 59))), none⟩ :: ⟨(some 17), (.p (.mv (.t 60))), none⟩ :: []))
def k8_8 : ACode := (.region (⟨(some 62), (.p (.mv (.t 4))), none⟩ :: ⟨(some 63), (.p (.mv (.t 13))), none⟩ :: ⟨(some 64), (.p (.slice 4 (.t 62) (some (.t 63)) none none)), none⟩ :: ⟨(some 65), (.r (.call 20 [(.t 64)])), none⟩ :: ⟨(some 61), (.p (.mv (.t 65))), none⟩ :: ⟨(some 66), (.p (.ext (.t 61) 0)), none⟩ :: ⟨(some 67), (.p (.ext (.t 61) 1)), none⟩ :: ⟨(some 18), (.p (.mv (.t 66))), none⟩ :: ⟨(some 19), (.p (.mv (.t 67))), none⟩ :: []))
def k8_9 : ACode := (.region (⟨(some 68), (.p (.mv (.t 15))), none⟩ :: ⟨(some 69), (.p (.bin .neq (.t 68) (.c (.int .i64 0)))), none⟩ :: ⟨(some 70), (.p (.mv (.t 69))), none⟩ :: ⟨(some 71), (.p (.mv (.t 17))), (some (70, false))⟩ :: ⟨(some 72), (.p (.bin .neq (.t 71) (.c (.int .i64 0)))), (some (70, false))⟩ :: ⟨(some 73), (.p (.pick (.t 70) (.c (.bool true)) (.t 72))), none⟩ :: t8_1))
def k8_10 : ACode := (.region (⟨(some 78), (.p (.mv (.t 14))), none⟩ :: ⟨(some 79), (.p (.bin .eql (.t 78) (.c (.int .i64 0)))), none⟩ :: ⟨(some 80), (.p (.mv (.t 79))), none⟩ :: ⟨(some 81), (.p (.mv (.t 15))), (some (80, false))⟩ :: ⟨(some 82), (.p (.bin .eql (.t 81) (.c (.int .i64 0)))), (some (80, false))⟩ :: ⟨(some 83), (.p (.pick (.t 80) (.c (.bool true)) (.t 82))), none⟩ :: t8_2))
def k8_11 : ACode := (.seq k8_10 .ret)
def k8_12 : ACode := (.cond (.t 77) k8_11 .skip)
def k8_13 : ACode := (.seq k8_9 k8_12)
def k8_14 : ACode := (.region (⟨(some 84), (.p (.mv (.t 14))), none⟩ :: ⟨(some 85), (.p (.mv (.t 16))), none⟩ :: ⟨(some 86), (.p (.bin .sub (.t 84) (.t 85))), none⟩ :: ⟨(some 87), (.p (.mv (.t 18))), none⟩ :: ⟨(some 88), (.p (.bin .eql (.t 86) (.t 87))), none⟩ :: ⟨(some 12), (.p (.mv (.t 88))), none⟩ :: []))
def k8_15 : ACode := (.seq k8_14 .ret)
def k8_16 : ACode := (.seq k8_13 k8_15)
def k8_17 : ACode := (.seq k8_8 k8_16)
def k8_18 : ACode := (.seq k8_7 k8_17)
def k8_19 : ACode := (.seq k8_6 k8_18)
def k8_20 : ACode := (.seq k8_5 k8_19)
def k8_21 : ACode := (.seq k8_4 k8_20)
def k8_22 : ACode := (.seq k8_2 k8_21)
def k8_23 : ACode := (.seq k8_1 k8_22)
def cd8 : ACode := (.seq k8_0 k8_23)
def rs8 : List ARes := [(.tmp 12)]
def af8 : AFn := ⟨cd8, rs8, 89⟩
theorem c8 : compF Try.prog 8 = some af8 := by kernel_rfl
noncomputable def g_snafflelaw09_LimitSteps (p_a : ExpoT) (p_b : ExpoT) (p_c : ExpoT) (p_l : ExpoT) (p_cells : (List CellT)) (p_cut : Int) : Option Bool := (Option.bind (g_snafflelaw09_awake) fun v1 => (bif (!v1) then (some false) else (bif (decide ((p_cells.length : Int) > 100)) then (some true) else (Option.bind (g_limit_Against p_a p_b p_l) fun v2 => (Option.bind (bif (!v2) then (Option.bind (g_limit_Against p_b p_c p_l) fun v25 => (some (!v25))) else (some false)) fun (b4 : Bool) => (Option.bind (bif b4 then (Option.bind (g_limit_Against p_a p_c p_l) fun v24 => (some v24)) else (some false)) fun (b7 : Bool) => (bif b7 then (some false) else (if ¬ (IntKind.wrap .i64 ((p_cells.length : Int) + 1)) = 0 then (Option.bind (g_limit_Whole p_cells) fun v10 => (Option.bind (cutO p_cells 0 (Int.tmod (IntKind.wrap .i64 p_cut) (IntKind.wrap .i64 ((p_cells.length : Int) + 1)))) fun x11 => (Option.bind (g_limit_Whole x11) fun v12 => (Option.bind (cutO p_cells (Int.tmod (IntKind.wrap .i64 p_cut) (IntKind.wrap .i64 ((p_cells.length : Int) + 1))) (p_cells.length : Int)) fun x13 => (Option.bind (g_limit_Whole x13) fun v14 => (bif (((v10.2 != 0) || (v12.2 != 0)) || (v14.2 != 0)) then (some ((v10.1 == 0) || (v10.2 == 0))) else (some ((IntKind.wrap .i64 (v10.1 - v12.1)) == v14.1)))))))) else none))))))))
noncomputable def sp8 : List DV → Option DV := specT (fun (a : ExpoT × ExpoT × ExpoT × ExpoT × (List CellT) × Int) => [.agg (e_ExpoT a.1), .agg (e_ExpoT a.2.1), .agg (e_ExpoT a.2.2.1), .agg (e_ExpoT a.2.2.2.1), .sl 4 (List.map e_CellT a.2.2.2.2.1), .int .u8 a.2.2.2.2.2]) (fun (r : Bool) => .bool r) (fun (a : ExpoT × ExpoT × ExpoT × ExpoT × (List CellT) × Int) => g_snafflelaw09_LimitSteps a.1 a.2.1 a.2.2.1 a.2.2.2.1 a.2.2.2.2.1 a.2.2.2.2.2)
theorem inj8 : ∀ (a b : ExpoT × ExpoT × ExpoT × ExpoT × (List CellT) × Int), List.map z1 ((fun (a : ExpoT × ExpoT × ExpoT × ExpoT × (List CellT) × Int) => [.agg (e_ExpoT a.1), .agg (e_ExpoT a.2.1), .agg (e_ExpoT a.2.2.1), .agg (e_ExpoT a.2.2.2.1), .sl 4 (List.map e_CellT a.2.2.2.2.1), .int .u8 a.2.2.2.2.2]) a) = List.map z1 ((fun (a : ExpoT × ExpoT × ExpoT × ExpoT × (List CellT) × Int) => [.agg (e_ExpoT a.1), .agg (e_ExpoT a.2.1), .agg (e_ExpoT a.2.2.1), .agg (e_ExpoT a.2.2.2.1), .sl 4 (List.map e_CellT a.2.2.2.2.1), .int .u8 a.2.2.2.2.2]) b) → a = b := by
  rintro ⟨a0, a1, a2, a3, a4, a5⟩ ⟨b0, b1, b2, b3, b4, b5⟩ h
  simp only [List.map_cons, List.map_nil, List.cons.injEq, and_true] at h
  obtain ⟨h0, h1, h2, h3, h4, h5⟩ := h
  exact (pair_eq (e_ExpoT_inj (DV.agg.inj h0)) (pair_eq (e_ExpoT_inj (DV.agg.inj h1)) (pair_eq (e_ExpoT_inj (DV.agg.inj h2)) (pair_eq (e_ExpoT_inj (DV.agg.inj h3)) (pair_eq (map_inj e_CellT_inj (z1_sl h4)) (DV.int.inj h5).2)))))
set_option maxHeartbeats 1000000 in
theorem w8 {C : FuncId → Con} (hC : ConOk Try.prog C) {q19 : List DV → Option DV} (hc19 : C 19 = .val q19) (hs19 : ∀ (ds : List DV), List.map z1 ds = List.map z1 [] → q19 ds = (g_snafflelaw09_awake).map fun r => .bool r) {q24 : List DV → Option DV} (hc24 : C 24 = .val q24) (hs24 : ∀ (x0 : ExpoT) (x1 : ExpoT) (x2 : ExpoT) (ds : List DV), List.map z1 ds = List.map z1 [.agg (e_ExpoT x0), .agg (e_ExpoT x1), .agg (e_ExpoT x2)] → q24 ds = (g_limit_Against x0 x1 x2).map fun r => .bool r) {q20 : List DV → Option DV} (hc20 : C 20 = .val q20) (hs20 : ∀ (x0 : (List CellT)) (ds : List DV), List.map z1 ds = List.map z1 [.sl 4 (List.map e_CellT x0)] → q20 ds = (g_limit_Whole x0).map fun r => .tup [.int .i64 r.1, .int .i64 r.2]) : ValOk Try.prog 8 sp8 := by
  refine valT_of hC c8 _ _ _ inj8 ?_
  rintro ⟨p_a, p_b, p_c, p_l, p_cells, p_cut⟩
  show Imq (g_snafflelaw09_LimitSteps p_a p_b p_c p_l p_cells p_cut) (fun _ => True) fun r => WP Try.prog C (fun _ => False) cd8 (retQ fun s => outV s rs8 = some (.bool r)) ⟨⟨89, [(0, (.val (.agg [(.int .i64 p_a.Long), (.int .i64 p_a.Short), (.int .i64 p_a.Open)]))), (1, (.val (.agg [(.int .i64 p_b.Long), (.int .i64 p_b.Short), (.int .i64 p_b.Open)]))), (2, (.val (.agg [(.int .i64 p_c.Long), (.int .i64 p_c.Short), (.int .i64 p_c.Open)]))), (3, (.val (.agg [(.int .i64 p_l.Long), (.int .i64 p_l.Short), (.int .i64 p_l.Open)]))), (4, (.val (.sl 4 (List.map e_CellT p_cells)))), (5, (.val (.int .u8 p_cut)))]⟩, mkH []⟩
  unfold g_snafflelaw09_LimitSteps
  refine G_seq ?_
  refine G_region ?_
  refine G_op [1001] (v := (.box [1001] 0)) (E_a (u := (.box [1001] 0)) (b := (.box [(.val (.int .i64 p_a.Long)), (.val (.int .i64 p_a.Short)), (.val (.int .i64 p_a.Open))])) (h' := [([1001], (.box [(.val (.int .i64 p_a.Long)), (.val (.int .i64 p_a.Short)), (.val (.int .i64 p_a.Open))]))]) (by kernel_rfl) (by kernel_rfl) (by kernel_rfl)) rfl rfl ?_
  refine G_op [1002] (v := (.box [1002] 0)) (E_a (u := (.box [1002] 0)) (b := (.box [(.val (.int .i64 p_b.Long)), (.val (.int .i64 p_b.Short)), (.val (.int .i64 p_b.Open))])) (h' := [([1001], (.box [(.val (.int .i64 p_a.Long)), (.val (.int .i64 p_a.Short)), (.val (.int .i64 p_a.Open))])), ([1002], (.box [(.val (.int .i64 p_b.Long)), (.val (.int .i64 p_b.Short)), (.val (.int .i64 p_b.Open))]))]) (by kernel_rfl) (by kernel_rfl) (by kernel_rfl)) rfl rfl ?_
  refine G_op [1003] (v := (.box [1003] 0)) (E_a (u := (.box [1003] 0)) (b := (.box [(.val (.int .i64 p_c.Long)), (.val (.int .i64 p_c.Short)), (.val (.int .i64 p_c.Open))])) (h' := [([1001], (.box [(.val (.int .i64 p_a.Long)), (.val (.int .i64 p_a.Short)), (.val (.int .i64 p_a.Open))])), ([1002], (.box [(.val (.int .i64 p_b.Long)), (.val (.int .i64 p_b.Short)), (.val (.int .i64 p_b.Open))])), ([1003], (.box [(.val (.int .i64 p_c.Long)), (.val (.int .i64 p_c.Short)), (.val (.int .i64 p_c.Open))]))]) (by kernel_rfl) (by kernel_rfl) (by kernel_rfl)) rfl rfl ?_
  refine G_op [1004] (v := (.box [1004] 0)) (E_a (u := (.box [1004] 0)) (b := (.box [(.val (.int .i64 p_l.Long)), (.val (.int .i64 p_l.Short)), (.val (.int .i64 p_l.Open))])) (h' := [([1001], (.box [(.val (.int .i64 p_a.Long)), (.val (.int .i64 p_a.Short)), (.val (.int .i64 p_a.Open))])), ([1002], (.box [(.val (.int .i64 p_b.Long)), (.val (.int .i64 p_b.Short)), (.val (.int .i64 p_b.Open))])), ([1003], (.box [(.val (.int .i64 p_c.Long)), (.val (.int .i64 p_c.Short)), (.val (.int .i64 p_c.Open))])), ([1004], (.box [(.val (.int .i64 p_l.Long)), (.val (.int .i64 p_l.Short)), (.val (.int .i64 p_l.Open))]))]) (by kernel_rfl) (by kernel_rfl) (by kernel_rfl)) rfl rfl ?_
  refine G_op [0] (v := (.val (.bool false))) (E_p (by kernel_rfl)) rfl rfl ?_
  refine G_nil ?_
  refine G_then ?_
  refine G_seq ?_
  refine G_seq ?_
  refine G_region ?_
  refine q_bind fun v1 hv1 => ?_
  refine G_op [0] (v := (.val (.bool v1))) (E_call (ds := []) (r := .bool v1) hc19 (by kernel_rfl) ((hs19 _ (by kernel_rfl)).trans (congrArg _ hv1))) rfl rfl ?_
  refine G_op [0] (v := (.val (.bool (!v1)))) (E_p (by kernel_rfl)) rfl rfl ?_
  refine G_nil ?_
  refine G_then ?_
  refine G_cond (t := (!v1)) (by kernel_rfl) (fun _ => ?_) (fun _ => ?_)
  · refine G_seq ?_
    refine G_region ?_
    refine G_op [0] (v := (.val (.bool false))) (E_p (by kernel_rfl)) rfl rfl ?_
    refine G_nil ?_
    refine G_then ?_
    refine G_ret ?_
    refine G_thenR ?_
    refine G_retR ?_
    refine q_some fun hA => ?_
    show outV _ _ = some _
    kernel_rfl
  · refine G_skip ?_
    refine G_then ?_
    refine G_seq ?_
    refine G_seq ?_
    refine G_region ?_
    refine G_op [0] (v := (.val (.sl 4 (List.map e_CellT p_cells)))) (E_p (by kernel_rfl)) rfl rfl ?_
    refine G_op [0] (v := (.val (.int .i64 (p_cells.length : Int)))) (E_len (s := 4) (e := e_CellT) (xs := p_cells) (by kernel_rfl)) rfl rfl ?_
    refine G_op [0] (v := (.val (.bool (decide ((p_cells.length : Int) > 100))))) (E_p (by kernel_rfl)) rfl rfl ?_
    refine G_nil ?_
    refine G_then ?_
    refine G_cond (t := (decide ((p_cells.length : Int) > 100))) (by kernel_rfl) (fun _ => ?_) (fun _ => ?_)
    · refine G_seq ?_
      refine G_region ?_
      refine G_op [0] (v := (.val (.bool true))) (E_p (by kernel_rfl)) rfl rfl ?_
      refine G_nil ?_
      refine G_then ?_
      refine G_subW (s0 := ⟨⟨89, [(12, (.val (.bool true))), (9, (.box [1004] 0)), (8, (.box [1003] 0)), (7, (.box [1002] 0)), (6, (.box [1001] 0)), (4, (.val (.sl 4 (List.map e_CellT p_cells)))), (5, (.val (.int .u8 p_cut)))]⟩, mkH [([1001], (.box [(.val (.int .i64 p_a.Long)), (.val (.int .i64 p_a.Short)), (.val (.int .i64 p_a.Open))])), ([1002], (.box [(.val (.int .i64 p_b.Long)), (.val (.int .i64 p_b.Short)), (.val (.int .i64 p_b.Open))])), ([1003], (.box [(.val (.int .i64 p_c.Long)), (.val (.int .i64 p_c.Short)), (.val (.int .i64 p_c.Open))])), ([1004], (.box [(.val (.int .i64 p_l.Long)), (.val (.int .i64 p_l.Short)), (.val (.int .i64 p_l.Open))]))]⟩) (by exact Sub_env ⟨.refl _, .refl _, .refl _, .refl _, .refl _, .refl _, .refl _, trivial⟩) ?_
      refine G_ret ?_
      refine G_thenR ?_
      refine G_retR ?_
      refine q_some fun hA => ?_
      show outV _ _ = some _
      kernel_rfl
    · refine G_skip ?_
      refine G_then ?_
      refine G_subW (s0 := ⟨⟨89, [(12, (.val (.bool false))), (9, (.box [1004] 0)), (8, (.box [1003] 0)), (7, (.box [1002] 0)), (6, (.box [1001] 0)), (4, (.val (.sl 4 (List.map e_CellT p_cells)))), (5, (.val (.int .u8 p_cut)))]⟩, mkH [([1001], (.box [(.val (.int .i64 p_a.Long)), (.val (.int .i64 p_a.Short)), (.val (.int .i64 p_a.Open))])), ([1002], (.box [(.val (.int .i64 p_b.Long)), (.val (.int .i64 p_b.Short)), (.val (.int .i64 p_b.Open))])), ([1003], (.box [(.val (.int .i64 p_c.Long)), (.val (.int .i64 p_c.Short)), (.val (.int .i64 p_c.Open))])), ([1004], (.box [(.val (.int .i64 p_l.Long)), (.val (.int .i64 p_l.Short)), (.val (.int .i64 p_l.Open))]))]⟩) (by exact Sub_env ⟨.refl _, .refl _, .refl _, .refl _, .refl _, .refl _, .refl _, trivial⟩) ?_
      refine G_seq ?_
      refine G_seq ?_
      refine G_region ?_
      refine G_op [0] (v := (.agg [(.val (.int .i64 p_a.Long)), (.val (.int .i64 p_a.Short)), (.val (.int .i64 p_a.Open))])) (E_load (by kernel_rfl)) rfl rfl ?_
      refine G_op [0] (v := (.agg [(.val (.int .i64 p_b.Long)), (.val (.int .i64 p_b.Short)), (.val (.int .i64 p_b.Open))])) (E_load (by kernel_rfl)) rfl rfl ?_
      refine G_op [0] (v := (.agg [(.val (.int .i64 p_l.Long)), (.val (.int .i64 p_l.Short)), (.val (.int .i64 p_l.Open))])) (E_load (by kernel_rfl)) rfl rfl ?_
      refine q_bind fun v2 hv2 => ?_
      refine G_op [0] (v := (.val (.bool v2))) (E_call (ds := [.agg (e_ExpoT p_a), .agg (e_ExpoT p_b), .agg (e_ExpoT p_l)]) (r := .bool v2) hc24 (by kernel_rfl) ((hs24 p_a p_b p_l _ (by kernel_rfl)).trans (congrArg _ hv2))) rfl rfl ?_
      refine G_op [0] (v := (.val (.bool (!v2)))) (E_p (by kernel_rfl)) rfl rfl ?_
      refine G_op [0] (v := (.val (.bool (!v2)))) (E_p (by kernel_rfl)) rfl rfl ?_
      refine G_joinR (l := t8_0) (st := fun (b4 : Bool) => ⟨⟨89, [(36, (.val (.bool b4))), (12, (.val (.bool false))), (9, (.box [1004] 0)), (8, (.box [1003] 0)), (6, (.box [1001] 0)), (4, (.val (.sl 4 (List.map e_CellT p_cells)))), (5, (.val (.int .u8 p_cut)))]⟩, mkH [([1001], (.box [(.val (.int .i64 p_a.Long)), (.val (.int .i64 p_a.Short)), (.val (.int .i64 p_a.Open))])), ([1003], (.box [(.val (.int .i64 p_c.Long)), (.val (.int .i64 p_c.Short)), (.val (.int .i64 p_c.Open))])), ([1004], (.box [(.val (.int .i64 p_l.Long)), (.val (.int .i64 p_l.Short)), (.val (.int .i64 p_l.Open))]))]⟩) (fun b4 => ?_) (fun r5 hr5 => ?_)
      · refine G_op [0] (v := (.val (.bool b4))) (E_p (by kernel_rfl)) rfl rfl ?_
        refine G_joinR (l := []) (st := fun (b7 : Bool) => ⟨⟨89, [(42, (.val (.bool b7))), (12, (.val (.bool false))), (4, (.val (.sl 4 (List.map e_CellT p_cells)))), (5, (.val (.int .u8 p_cut)))]⟩, mkH []⟩) (fun b7 => ?_) (fun r8 hr8 => ?_)
        · refine G_nil ?_
          refine G_then ?_
          refine G_cond (t := b7) (by kernel_rfl) (fun _ => ?_) (fun _ => ?_)
          · refine G_seq ?_
            refine G_region ?_
            refine G_op [0] (v := (.val (.bool false))) (E_p (by kernel_rfl)) rfl rfl ?_
            refine G_nil ?_
            refine G_then ?_
            refine G_ret ?_
            refine G_thenR ?_
            refine G_retR ?_
            refine q_some fun hA => ?_
            show outV _ _ = some _
            kernel_rfl
          · refine G_skip ?_
            refine G_then ?_
            refine G_seq ?_
            refine G_region ?_
            refine G_op [0] (v := (.val (.int .u8 p_cut))) (E_p (by kernel_rfl)) rfl rfl ?_
            refine G_op [0] (v := (.val (.int .i64 (IntKind.wrap .i64 p_cut)))) (E_p (by kernel_rfl)) rfl rfl ?_
            refine G_op [0] (v := (.val (.sl 4 (List.map e_CellT p_cells)))) (E_p (by kernel_rfl)) rfl rfl ?_
            refine G_op [0] (v := (.val (.int .i64 (p_cells.length : Int)))) (E_len (s := 4) (e := e_CellT) (xs := p_cells) (by kernel_rfl)) rfl rfl ?_
            refine G_op [0] (v := (.val (.int .i64 (IntKind.wrap .i64 ((p_cells.length : Int) + 1))))) (E_p (by kernel_rfl)) rfl rfl ?_
            refine q_guard fun h9 => ?_
            refine G_op [0] (v := (.val (.int .i64 (Int.tmod (IntKind.wrap .i64 p_cut) (IntKind.wrap .i64 ((p_cells.length : Int) + 1)))))) (E_bin (a := .int .i64 (IntKind.wrap .i64 p_cut)) (b := .int .i64 (IntKind.wrap .i64 ((p_cells.length : Int) + 1))) rfl rfl (bin_rem h9)) rfl rfl ?_
            refine G_op [0] (v := (.val (.int .i64 (Int.tmod (IntKind.wrap .i64 p_cut) (IntKind.wrap .i64 ((p_cells.length : Int) + 1)))))) (E_p (by kernel_rfl)) rfl rfl ?_
            refine G_nil ?_
            refine G_then ?_
            refine G_seq ?_
            refine G_region ?_
            refine G_op [0] (v := (.val (.sl 4 (List.map e_CellT p_cells)))) (E_p (by kernel_rfl)) rfl rfl ?_
            refine q_bind fun v10 hv10 => ?_
            refine G_op [0] (v := (.val (.tup [(.int .i64 v10.1), (.int .i64 v10.2)]))) (E_call (ds := [.sl 4 (List.map e_CellT p_cells)]) (r := .tup [.int .i64 v10.1, .int .i64 v10.2]) hc20 (by kernel_rfl) ((hs20 p_cells _ (by kernel_rfl)).trans (congrArg _ hv10))) rfl rfl ?_
            refine G_op [0] (v := (.val (.tup [(.int .i64 v10.1), (.int .i64 v10.2)]))) (E_p (by kernel_rfl)) rfl rfl ?_
            refine G_op [0] (v := (.val (.int .i64 v10.1))) (E_p (by kernel_rfl)) rfl rfl ?_
            refine G_op [0] (v := (.val (.int .i64 v10.2))) (E_p (by kernel_rfl)) rfl rfl ?_
            refine G_op [0] (v := (.val (.int .i64 v10.1))) (E_p (by kernel_rfl)) rfl rfl ?_
            refine G_op [0] (v := (.val (.int .i64 v10.2))) (E_p (by kernel_rfl)) rfl rfl ?_
            refine G_nil ?_
            refine G_then ?_
            refine G_subW (s0 := ⟨⟨89, [(15, (.val (.int .i64 v10.2))), (14, (.val (.int .i64 v10.1))), (13, (.val (.int .i64 (Int.tmod (IntKind.wrap .i64 p_cut) (IntKind.wrap .i64 ((p_cells.length : Int) + 1)))))), (12, (.val (.bool false))), (4, (.val (.sl 4 (List.map e_CellT p_cells))))]⟩, mkH []⟩) (by exact Sub_env ⟨.refl _, .refl _, .refl _, .refl _, .refl _, trivial⟩) ?_
            refine G_seq ?_
            refine G_region ?_
            refine G_op [0] (v := (.val (.sl 4 (List.map e_CellT p_cells)))) (E_p (by kernel_rfl)) rfl rfl ?_
            refine G_op [0] (v := (.val (.int .i64 (Int.tmod (IntKind.wrap .i64 p_cut) (IntKind.wrap .i64 ((p_cells.length : Int) + 1)))))) (E_p (by kernel_rfl)) rfl rfl ?_
            refine q_bind fun x11 hx11 => ?_
            refine G_op [0] (v := (.val (.sl 4 (List.map e_CellT x11)))) (E_slice (s := 4) (e := e_CellT) (xs := p_cells) (a := 0) (b := (Int.tmod (IntKind.wrap .i64 p_cut) (IntKind.wrap .i64 ((p_cells.length : Int) + 1)))) (ys := x11) (by kernel_rfl) (by kernel_rfl) (by kernel_rfl) hx11) rfl rfl ?_
            refine q_bind fun v12 hv12 => ?_
            refine G_op [0] (v := (.val (.tup [(.int .i64 v12.1), (.int .i64 v12.2)]))) (E_call (ds := [.sl 4 (List.map e_CellT x11)]) (r := .tup [.int .i64 v12.1, .int .i64 v12.2]) hc20 (by kernel_rfl) ((hs20 x11 _ (by kernel_rfl)).trans (congrArg _ hv12))) rfl rfl ?_
            refine G_op [0] (v := (.val (.tup [(.int .i64 v12.1), (.int .i64 v12.2)]))) (E_p (by kernel_rfl)) rfl rfl ?_
            refine G_op [0] (v := (.val (.int .i64 v12.1))) (E_p (by kernel_rfl)) rfl rfl ?_
            refine G_op [0] (v := (.val (.int .i64 v12.2))) (E_p (by kernel_rfl)) rfl rfl ?_
            refine G_op [0] (v := (.val (.int .i64 v12.1))) (E_p (by kernel_rfl)) rfl rfl ?_
            refine G_op [0] (v := (.val (.int .i64 v12.2))) (E_p (by kernel_rfl)) rfl rfl ?_
            refine G_nil ?_
            refine G_then ?_
            refine G_seq ?_
            refine G_region ?_
            refine G_op [0] (v := (.val (.sl 4 (List.map e_CellT p_cells)))) (E_p (by kernel_rfl)) rfl rfl ?_
            refine G_op [0] (v := (.val (.int .i64 (Int.tmod (IntKind.wrap .i64 p_cut) (IntKind.wrap .i64 ((p_cells.length : Int) + 1)))))) (E_p (by kernel_rfl)) rfl rfl ?_
            refine q_bind fun x13 hx13 => ?_
            refine G_op [0] (v := (.val (.sl 4 (List.map e_CellT x13)))) (E_slice (s := 4) (e := e_CellT) (xs := p_cells) (a := (Int.tmod (IntKind.wrap .i64 p_cut) (IntKind.wrap .i64 ((p_cells.length : Int) + 1)))) (b := (p_cells.length : Int)) (ys := x13) (by kernel_rfl) (by kernel_rfl) (by kernel_rfl) hx13) rfl rfl ?_
            refine q_bind fun v14 hv14 => ?_
            refine G_op [0] (v := (.val (.tup [(.int .i64 v14.1), (.int .i64 v14.2)]))) (E_call (ds := [.sl 4 (List.map e_CellT x13)]) (r := .tup [.int .i64 v14.1, .int .i64 v14.2]) hc20 (by kernel_rfl) ((hs20 x13 _ (by kernel_rfl)).trans (congrArg _ hv14))) rfl rfl ?_
            refine G_op [0] (v := (.val (.tup [(.int .i64 v14.1), (.int .i64 v14.2)]))) (E_p (by kernel_rfl)) rfl rfl ?_
            refine G_op [0] (v := (.val (.int .i64 v14.1))) (E_p (by kernel_rfl)) rfl rfl ?_
            refine G_op [0] (v := (.val (.int .i64 v14.2))) (E_p (by kernel_rfl)) rfl rfl ?_
            refine G_op [0] (v := (.val (.int .i64 v14.1))) (E_p (by kernel_rfl)) rfl rfl ?_
            refine G_op [0] (v := (.val (.int .i64 v14.2))) (E_p (by kernel_rfl)) rfl rfl ?_
            refine G_nil ?_
            refine G_then ?_
            refine G_subW (s0 := ⟨⟨89, [(19, (.val (.int .i64 v14.2))), (18, (.val (.int .i64 v14.1))), (17, (.val (.int .i64 v12.2))), (16, (.val (.int .i64 v12.1))), (15, (.val (.int .i64 v10.2))), (14, (.val (.int .i64 v10.1))), (12, (.val (.bool false)))]⟩, mkH []⟩) (by exact Sub_env ⟨.refl _, .refl _, .refl _, .refl _, .refl _, .refl _, .refl _, trivial⟩) ?_
            refine G_seq ?_
            refine G_seq ?_
            refine G_region ?_
            refine G_op [0] (v := (.val (.int .i64 v10.2))) (E_p (by kernel_rfl)) rfl rfl ?_
            refine G_op [0] (v := (.val (.bool (v10.2 != 0)))) (E_p (by kernel_rfl)) rfl rfl ?_
            refine G_op [0] (v := (.val (.bool (v10.2 != 0)))) (E_p (by kernel_rfl)) rfl rfl ?_
            refine G_pure (l := t8_1) (st := ⟨⟨89, [(73, (.val (.bool ((v10.2 != 0) || (v12.2 != 0))))), (19, (.val (.int .i64 v14.2))), (18, (.val (.int .i64 v14.1))), (16, (.val (.int .i64 v12.1))), (15, (.val (.int .i64 v10.2))), (14, (.val (.int .i64 v10.1))), (12, (.val (.bool false)))]⟩, mkH []⟩) ?_ (fun r17 => ?_)
            · refine G_op [0] (v := (.val (.bool ((v10.2 != 0) || (v12.2 != 0))))) (E_p (by kernel_rfl)) rfl rfl ?_
              refine G_pure (l := []) (st := ⟨⟨89, [(77, (.val (.bool (((v10.2 != 0) || (v12.2 != 0)) || (v14.2 != 0))))), (18, (.val (.int .i64 v14.1))), (16, (.val (.int .i64 v12.1))), (15, (.val (.int .i64 v10.2))), (14, (.val (.int .i64 v10.1))), (12, (.val (.bool false)))]⟩, mkH []⟩) ?_ (fun r20 => ?_)
              · refine G_nil ?_
                refine G_then ?_
                refine G_cond (t := (((v10.2 != 0) || (v12.2 != 0)) || (v14.2 != 0))) (by kernel_rfl) (fun _ => ?_) (fun _ => ?_)
                · refine G_seq ?_
                  refine G_region ?_
                  refine G_op [0] (v := (.val (.int .i64 v10.1))) (E_p (by kernel_rfl)) rfl rfl ?_
                  refine G_op [0] (v := (.val (.bool (v10.1 == 0)))) (E_p (by kernel_rfl)) rfl rfl ?_
                  refine G_op [0] (v := (.val (.bool (v10.1 == 0)))) (E_p (by kernel_rfl)) rfl rfl ?_
                  refine G_pure (l := t8_2) (st := ⟨⟨89, [(83, (.val (.bool ((v10.1 == 0) || (v10.2 == 0))))), (18, (.val (.int .i64 v14.1))), (16, (.val (.int .i64 v12.1))), (14, (.val (.int .i64 v10.1))), (12, (.val (.bool false)))]⟩, mkH []⟩) ?_ (fun r23 => ?_)
                  · refine G_op [0] (v := (.val (.bool ((v10.1 == 0) || (v10.2 == 0))))) (E_p (by kernel_rfl)) rfl rfl ?_
                    refine G_nil ?_
                    refine G_then ?_
                    refine G_ret ?_
                    refine G_thenR ?_
                    refine G_retR ?_
                    refine q_some fun hA => ?_
                    show outV _ _ = some _
                    kernel_rfl
                  · refine q_two (v10.1 == 0) (fun h21 => ?_) (fun h21 => ?_)
                    · refine G_subR (Sub_lit (t := 80) (v := true) rfl h21) ?_
                      refine G_off rfl rfl ?_
                      refine G_off rfl rfl ?_
                      refine G_op [0] (v := (.val (.bool true))) (E_p (by kernel_rfl)) rfl rfl ?_
                      exact q_some fun h => RP_sub (by exact Sub_env ⟨(Wk_or1 h21), .refl _, .refl _, .refl _, .refl _, trivial⟩) h
                    · refine G_subR (Sub_lit (t := 80) (v := false) rfl h21) ?_
                      refine G_op [0] (v := (.val (.int .i64 v10.2))) (E_p (by kernel_rfl)) rfl rfl ?_
                      refine G_op [0] (v := (.val (.bool (v10.2 == 0)))) (E_p (by kernel_rfl)) rfl rfl ?_
                      refine G_op [0] (v := (.val (.bool (v10.2 == 0)))) (E_p (by kernel_rfl)) rfl rfl ?_
                      exact q_some fun h => RP_sub (by exact Sub_env ⟨(Wk_or0 h21), .refl _, .refl _, .refl _, .refl _, trivial⟩) h
                · refine G_skip ?_
                  refine G_then ?_
                  refine G_seq ?_
                  refine G_region ?_
                  refine G_op [0] (v := (.val (.int .i64 v10.1))) (E_p (by kernel_rfl)) rfl rfl ?_
                  refine G_op [0] (v := (.val (.int .i64 v12.1))) (E_p (by kernel_rfl)) rfl rfl ?_
                  refine G_op [0] (v := (.val (.int .i64 (IntKind.wrap .i64 (v10.1 - v12.1))))) (E_p (by kernel_rfl)) rfl rfl ?_
                  refine G_op [0] (v := (.val (.int .i64 v14.1))) (E_p (by kernel_rfl)) rfl rfl ?_
                  refine G_op [0] (v := (.val (.bool ((IntKind.wrap .i64 (v10.1 - v12.1)) == v14.1)))) (E_p (by kernel_rfl)) rfl rfl ?_
                  refine G_op [0] (v := (.val (.bool ((IntKind.wrap .i64 (v10.1 - v12.1)) == v14.1)))) (E_p (by kernel_rfl)) rfl rfl ?_
                  refine G_nil ?_
                  refine G_then ?_
                  refine G_subW (s0 := ⟨⟨89, [(12, (.val (.bool ((IntKind.wrap .i64 (v10.1 - v12.1)) == v14.1))))]⟩, mkH []⟩) (by exact Sub_env ⟨.refl _, trivial⟩) ?_
                  refine G_ret ?_
                  refine G_retR ?_
                  refine q_some fun hA => ?_
                  show outV _ _ = some _
                  kernel_rfl
              · refine q_two ((v10.2 != 0) || (v12.2 != 0)) (fun h18 => ?_) (fun h18 => ?_)
                · refine G_subR (Sub_lit (t := 74) (v := true) rfl h18) ?_
                  refine G_off rfl rfl ?_
                  refine G_off rfl rfl ?_
                  refine G_op [0] (v := (.val (.bool true))) (E_p (by kernel_rfl)) rfl rfl ?_
                  exact q_some fun h => RP_sub (by exact Sub_env ⟨(Wk_or1 h18), .refl _, .refl _, .refl _, .refl _, .refl _, trivial⟩) h
                · refine G_subR (Sub_lit (t := 74) (v := false) rfl h18) ?_
                  refine G_op [0] (v := (.val (.int .i64 v14.2))) (E_p (by kernel_rfl)) rfl rfl ?_
                  refine G_op [0] (v := (.val (.bool (v14.2 != 0)))) (E_p (by kernel_rfl)) rfl rfl ?_
                  refine G_op [0] (v := (.val (.bool (v14.2 != 0)))) (E_p (by kernel_rfl)) rfl rfl ?_
                  exact q_some fun h => RP_sub (by exact Sub_env ⟨(Wk_or0 h18), .refl _, .refl _, .refl _, .refl _, .refl _, trivial⟩) h
            · refine q_two (v10.2 != 0) (fun h15 => ?_) (fun h15 => ?_)
              · refine G_subR (Sub_lit (t := 70) (v := true) rfl h15) ?_
                refine G_off rfl rfl ?_
                refine G_off rfl rfl ?_
                refine G_op [0] (v := (.val (.bool true))) (E_p (by kernel_rfl)) rfl rfl ?_
                exact q_some fun h => RP_sub (by exact Sub_env ⟨(Wk_or1 h15), .refl _, .refl _, .refl _, .refl _, .refl _, .refl _, trivial⟩) h
              · refine G_subR (Sub_lit (t := 70) (v := false) rfl h15) ?_
                refine G_op [0] (v := (.val (.int .i64 v12.2))) (E_p (by kernel_rfl)) rfl rfl ?_
                refine G_op [0] (v := (.val (.bool (v12.2 != 0)))) (E_p (by kernel_rfl)) rfl rfl ?_
                refine G_op [0] (v := (.val (.bool (v12.2 != 0)))) (E_p (by kernel_rfl)) rfl rfl ?_
                exact q_some fun h => RP_sub (by exact Sub_env ⟨(Wk_or0 h15), .refl _, .refl _, .refl _, .refl _, .refl _, .refl _, trivial⟩) h
        · refine q_bif (fun h6 => ?_) (fun h6 => ?_)
          · refine G_subR (Sub_lit (t := 37) (v := true) rfl h6) ?_
            refine G_op [0] (v := (.agg [(.val (.int .i64 p_a.Long)), (.val (.int .i64 p_a.Short)), (.val (.int .i64 p_a.Open))])) (E_load (by kernel_rfl)) rfl rfl ?_
            refine G_op [0] (v := (.agg [(.val (.int .i64 p_c.Long)), (.val (.int .i64 p_c.Short)), (.val (.int .i64 p_c.Open))])) (E_load (by kernel_rfl)) rfl rfl ?_
            refine G_op [0] (v := (.agg [(.val (.int .i64 p_l.Long)), (.val (.int .i64 p_l.Short)), (.val (.int .i64 p_l.Open))])) (E_load (by kernel_rfl)) rfl rfl ?_
            refine q_bind fun v24 hv24 => ?_
            refine G_op [0] (v := (.val (.bool v24))) (E_call (ds := [.agg (e_ExpoT p_a), .agg (e_ExpoT p_c), .agg (e_ExpoT p_l)]) (r := .bool v24) hc24 (by kernel_rfl) ((hs24 p_a p_c p_l _ (by kernel_rfl)).trans (congrArg _ hv24))) rfl rfl ?_
            refine G_op [0] (v := (.val (.bool v24))) (E_p (by kernel_rfl)) rfl rfl ?_
            exact q_some fun h => RP_sub (by exact Sub_keep ⟨.refl _, .refl _, .refl _, .refl _, trivial⟩ trivial (by kernel_rfl) (by kernel_rfl)) h
          · refine G_subR (Sub_lit (t := 37) (v := false) rfl h6) ?_
            refine G_off rfl rfl ?_
            refine G_off rfl rfl ?_
            refine G_off rfl rfl ?_
            refine G_off rfl rfl ?_
            refine G_op [0] (v := (.val (.bool false))) (E_p (by kernel_rfl)) rfl rfl ?_
            exact q_some fun h => RP_sub (by exact Sub_keep ⟨.refl _, .refl _, .refl _, .refl _, trivial⟩ trivial (by kernel_rfl) (by kernel_rfl)) h
      · refine q_bif (fun h3 => ?_) (fun h3 => ?_)
        · refine G_subR (Sub_lit (t := 30) (v := true) rfl h3) ?_
          refine G_op [0] (v := (.agg [(.val (.int .i64 p_b.Long)), (.val (.int .i64 p_b.Short)), (.val (.int .i64 p_b.Open))])) (E_load (by kernel_rfl)) rfl rfl ?_
          refine G_op [0] (v := (.agg [(.val (.int .i64 p_c.Long)), (.val (.int .i64 p_c.Short)), (.val (.int .i64 p_c.Open))])) (E_load (by kernel_rfl)) rfl rfl ?_
          refine G_op [0] (v := (.agg [(.val (.int .i64 p_l.Long)), (.val (.int .i64 p_l.Short)), (.val (.int .i64 p_l.Open))])) (E_load (by kernel_rfl)) rfl rfl ?_
          refine q_bind fun v25 hv25 => ?_
          refine G_op [0] (v := (.val (.bool v25))) (E_call (ds := [.agg (e_ExpoT p_b), .agg (e_ExpoT p_c), .agg (e_ExpoT p_l)]) (r := .bool v25) hc24 (by kernel_rfl) ((hs24 p_b p_c p_l _ (by kernel_rfl)).trans (congrArg _ hv25))) rfl rfl ?_
          refine G_op [0] (v := (.val (.bool (!v25)))) (E_p (by kernel_rfl)) rfl rfl ?_
          refine G_op [0] (v := (.val (.bool (!v25)))) (E_p (by kernel_rfl)) rfl rfl ?_
          exact q_some fun h => RP_sub (by exact Sub_keep ⟨.refl _, .refl _, .refl _, .refl _, .refl _, .refl _, .refl _, trivial⟩ ⟨⟨_, (by kernel_rfl), .refl _⟩, ⟨_, (by kernel_rfl), .refl _⟩, ⟨_, (by kernel_rfl), .refl _⟩, trivial⟩ (by kernel_rfl) (by kernel_rfl)) h
        · refine G_subR (Sub_lit (t := 30) (v := false) rfl h3) ?_
          refine G_off rfl rfl ?_
          refine G_off rfl rfl ?_
          refine G_off rfl rfl ?_
          refine G_off rfl rfl ?_
          refine G_off rfl rfl ?_
          refine G_op [0] (v := (.val (.bool false))) (E_p (by kernel_rfl)) rfl rfl ?_
          exact q_some fun h => RP_sub (by exact Sub_keep ⟨.refl _, .refl _, .refl _, .refl _, .refl _, .refl _, .refl _, trivial⟩ ⟨⟨_, (by kernel_rfl), .refl _⟩, ⟨_, (by kernel_rfl), .refl _⟩, ⟨_, (by kernel_rfl), .refl _⟩, trivial⟩ (by kernel_rfl) (by kernel_rfl)) h
theorem s8 (x0 : ExpoT) (x1 : ExpoT) (x2 : ExpoT) (x3 : ExpoT) (x4 : (List CellT)) (x5 : Int) (ds : List DV) (hd : List.map z1 ds = List.map z1 [.agg (e_ExpoT x0), .agg (e_ExpoT x1), .agg (e_ExpoT x2), .agg (e_ExpoT x3), .sl 4 (List.map e_CellT x4), .int .u8 x5]) : sp8 ds = (g_snafflelaw09_LimitSteps x0 x1 x2 x3 x4 x5).map fun r => .bool r :=
  specT_at (ea := fun (a : ExpoT × ExpoT × ExpoT × ExpoT × (List CellT) × Int) => [.agg (e_ExpoT a.1), .agg (e_ExpoT a.2.1), .agg (e_ExpoT a.2.2.1), .agg (e_ExpoT a.2.2.2.1), .sl 4 (List.map e_CellT a.2.2.2.2.1), .int .u8 a.2.2.2.2.2]) (eb := fun (r : Bool) => .bool r) (g := fun (a : ExpoT × ExpoT × ExpoT × ExpoT × (List CellT) × Int) => g_snafflelaw09_LimitSteps a.1 a.2.1 a.2.2.1 a.2.2.2.1 a.2.2.2.2.1 a.2.2.2.2.2) inj8 (x0, x1, x2, x3, x4, x5) hd

def t30_1 : List AIns := (⟨(some 4), (.p (.mv (.t 23))), none⟩ :: [])
def t30_0 : List AIns := (⟨(some 17), (.p (.mv (.t 16))), none⟩ :: ⟨(some 18), (.p (.foff 2 (.t 2))), (some (17, true))⟩ :: ⟨(some 19), (.r (.load 1 false (.t 18))), (some (17, true))⟩ :: ⟨(some 20), (.p (.foff 2 (.t 3))), (some (17, true))⟩ :: ⟨(some 21), (.r (.load 1 false (.t 20))), (some (17, true))⟩ :: ⟨(some 22), (.p (.bin .geq (.t 19) (.t 21))), (some (17, true))⟩ :: ⟨(some 23), (.p (.pick (.t 17) (.t 22) (.c (.bool false)))), none⟩ :: t30_1)
def k30_0 : ACode := (.region (⟨(some 5), (.p (.foff 0 (.t 2))), none⟩ :: ⟨(some 6), (.r (.load 1 false (.t 5))), none⟩ :: ⟨(some 7), (.p (.foff 0 (.t 3))), none⟩ :: ⟨(some 8), (.r (.load 1 false (.t 7))), none⟩ :: ⟨(some 9), (.p (.bin .geq (.t 6) (.t 8))), none⟩ :: ⟨(some 10), (.p (.mv (.t 9))), none⟩ :: ⟨(some 11), (.p (.foff 1 (.t 2))), (some (10, true))⟩ :: ⟨(some 12), (.r (.load 1 false (.t 11))), (some (10, true))⟩ :: ⟨(some 13), (.p (.foff 1 (.t 3))), (some (10, true))⟩ :: ⟨(some 14), (.r (.load 1 false (.t 13))), (some (10, true))⟩ :: ⟨(some 15), (.p (.bin .geq (.t 12) (.t 14))), (some (10, true))⟩ :: ⟨(some 16), (.p (.pick (.t 10) (.t 15) (.c (.bool false)))), none⟩ :: t30_0))
def k30_1 : ACode := (.seq k30_0 .ret)
def cd30 : ACode := (.seq (.region (⟨(some 2), (.a (.bx (.t 0))), none⟩ :: ⟨(some 3), (.a (.bx (.t 1))), none⟩ :: ⟨(some 4), (.p (.mv (.c (.bool false)))), none⟩ :: [])) k30_1)
def rs30 : List ARes := [(.tmp 4)]
def af30 : AFn := ⟨cd30, rs30, 24⟩
theorem c30 : compF Try.prog 30 = some af30 := by kernel_rfl
noncomputable def g_cell_Covers (p_a : ExpoT) (p_b : ExpoT) : Option Bool := (some (((decide (p_a.Long ≥ p_b.Long)) && (decide (p_a.Short ≥ p_b.Short))) && (decide (p_a.Open ≥ p_b.Open))))
noncomputable def sp30 : List DV → Option DV := specT (fun (a : ExpoT × ExpoT) => [.agg (e_ExpoT a.1), .agg (e_ExpoT a.2)]) (fun (r : Bool) => .bool r) (fun (a : ExpoT × ExpoT) => g_cell_Covers a.1 a.2)
theorem inj30 : ∀ (a b : ExpoT × ExpoT), List.map z1 ((fun (a : ExpoT × ExpoT) => [.agg (e_ExpoT a.1), .agg (e_ExpoT a.2)]) a) = List.map z1 ((fun (a : ExpoT × ExpoT) => [.agg (e_ExpoT a.1), .agg (e_ExpoT a.2)]) b) → a = b := by
  rintro ⟨a0, a1⟩ ⟨b0, b1⟩ h
  simp only [List.map_cons, List.map_nil, List.cons.injEq, and_true] at h
  obtain ⟨h0, h1⟩ := h
  exact (pair_eq (e_ExpoT_inj (DV.agg.inj h0)) (e_ExpoT_inj (DV.agg.inj h1)))
set_option maxHeartbeats 1000000 in
theorem w30 {C : FuncId → Con} (hC : ConOk Try.prog C) : ValOk Try.prog 30 sp30 := by
  refine valT_of hC c30 _ _ _ inj30 ?_
  rintro ⟨p_a, p_b⟩
  show Imq (g_cell_Covers p_a p_b) (fun _ => True) fun r => WP Try.prog C (fun _ => False) cd30 (retQ fun s => outV s rs30 = some (.bool r)) ⟨⟨24, [(0, (.val (.agg [(.int .i64 p_a.Long), (.int .i64 p_a.Short), (.int .i64 p_a.Open)]))), (1, (.val (.agg [(.int .i64 p_b.Long), (.int .i64 p_b.Short), (.int .i64 p_b.Open)])))]⟩, mkH []⟩
  unfold g_cell_Covers
  refine G_seq ?_
  refine G_region ?_
  refine G_op [1001] (v := (.box [1001] 0)) (E_a (u := (.box [1001] 0)) (b := (.box [(.val (.int .i64 p_a.Long)), (.val (.int .i64 p_a.Short)), (.val (.int .i64 p_a.Open))])) (h' := [([1001], (.box [(.val (.int .i64 p_a.Long)), (.val (.int .i64 p_a.Short)), (.val (.int .i64 p_a.Open))]))]) (by kernel_rfl) (by kernel_rfl) (by kernel_rfl)) rfl rfl ?_
  refine G_op [1002] (v := (.box [1002] 0)) (E_a (u := (.box [1002] 0)) (b := (.box [(.val (.int .i64 p_b.Long)), (.val (.int .i64 p_b.Short)), (.val (.int .i64 p_b.Open))])) (h' := [([1001], (.box [(.val (.int .i64 p_a.Long)), (.val (.int .i64 p_a.Short)), (.val (.int .i64 p_a.Open))])), ([1002], (.box [(.val (.int .i64 p_b.Long)), (.val (.int .i64 p_b.Short)), (.val (.int .i64 p_b.Open))]))]) (by kernel_rfl) (by kernel_rfl) (by kernel_rfl)) rfl rfl ?_
  refine G_op [0] (v := (.val (.bool false))) (E_p (by kernel_rfl)) rfl rfl ?_
  refine G_nil ?_
  refine G_then ?_
  refine G_seq ?_
  refine G_region ?_
  refine G_op [0] (v := (.box [1001] 0)) (E_p (by kernel_rfl)) rfl rfl ?_
  refine G_op [0] (v := (.val (.int .i64 p_a.Long))) (E_load (by kernel_rfl)) rfl rfl ?_
  refine G_op [0] (v := (.box [1002] 0)) (E_p (by kernel_rfl)) rfl rfl ?_
  refine G_op [0] (v := (.val (.int .i64 p_b.Long))) (E_load (by kernel_rfl)) rfl rfl ?_
  refine G_op [0] (v := (.val (.bool (decide (p_a.Long ≥ p_b.Long))))) (E_p (by kernel_rfl)) rfl rfl ?_
  refine G_op [0] (v := (.val (.bool (decide (p_a.Long ≥ p_b.Long))))) (E_p (by kernel_rfl)) rfl rfl ?_
  refine G_pure (l := t30_0) (st := ⟨⟨24, [(16, (.val (.bool ((decide (p_a.Long ≥ p_b.Long)) && (decide (p_a.Short ≥ p_b.Short)))))), (4, (.val (.bool false))), (3, (.box [1002] 0)), (2, (.box [1001] 0))]⟩, mkH [([1001], (.box [(.val (.int .i64 p_a.Long)), (.val (.int .i64 p_a.Short)), (.val (.int .i64 p_a.Open))])), ([1002], (.box [(.val (.int .i64 p_b.Long)), (.val (.int .i64 p_b.Short)), (.val (.int .i64 p_b.Open))]))]⟩) ?_ (fun r3 => ?_)
  · refine G_op [0] (v := (.val (.bool ((decide (p_a.Long ≥ p_b.Long)) && (decide (p_a.Short ≥ p_b.Short)))))) (E_p (by kernel_rfl)) rfl rfl ?_
    refine G_pure (l := t30_1) (st := ⟨⟨24, [(23, (.val (.bool (((decide (p_a.Long ≥ p_b.Long)) && (decide (p_a.Short ≥ p_b.Short))) && (decide (p_a.Open ≥ p_b.Open)))))), (4, (.val (.bool false)))]⟩, mkH []⟩) ?_ (fun r6 => ?_)
    · refine G_op [0] (v := (.val (.bool (((decide (p_a.Long ≥ p_b.Long)) && (decide (p_a.Short ≥ p_b.Short))) && (decide (p_a.Open ≥ p_b.Open)))))) (E_p (by kernel_rfl)) rfl rfl ?_
      refine G_nil ?_
      refine G_then ?_
      refine G_ret ?_
      refine G_retR ?_
      refine q_some fun hA => ?_
      show outV _ _ = some _
      kernel_rfl
    · refine q_two ((decide (p_a.Long ≥ p_b.Long)) && (decide (p_a.Short ≥ p_b.Short))) (fun h4 => ?_) (fun h4 => ?_)
      · refine G_subR (Sub_lit (t := 17) (v := true) rfl h4) ?_
        refine G_op [0] (v := (.box [1001] 2)) (E_p (by kernel_rfl)) rfl rfl ?_
        refine G_op [0] (v := (.val (.int .i64 p_a.Open))) (E_load (by kernel_rfl)) rfl rfl ?_
        refine G_op [0] (v := (.box [1002] 2)) (E_p (by kernel_rfl)) rfl rfl ?_
        refine G_op [0] (v := (.val (.int .i64 p_b.Open))) (E_load (by kernel_rfl)) rfl rfl ?_
        refine G_op [0] (v := (.val (.bool (decide (p_a.Open ≥ p_b.Open))))) (E_p (by kernel_rfl)) rfl rfl ?_
        refine G_op [0] (v := (.val (.bool (decide (p_a.Open ≥ p_b.Open))))) (E_p (by kernel_rfl)) rfl rfl ?_
        exact q_some fun h => RP_sub (by exact Sub_keep ⟨(Wk_and1 h4), .refl _, trivial⟩ trivial (by kernel_rfl) (by kernel_rfl)) h
      · refine G_subR (Sub_lit (t := 17) (v := false) rfl h4) ?_
        refine G_off rfl rfl ?_
        refine G_off rfl rfl ?_
        refine G_off rfl rfl ?_
        refine G_off rfl rfl ?_
        refine G_off rfl rfl ?_
        refine G_op [0] (v := (.val (.bool false))) (E_p (by kernel_rfl)) rfl rfl ?_
        exact q_some fun h => RP_sub (by exact Sub_keep ⟨(Wk_and0 h4), .refl _, trivial⟩ trivial (by kernel_rfl) (by kernel_rfl)) h
  · refine q_two (decide (p_a.Long ≥ p_b.Long)) (fun h1 => ?_) (fun h1 => ?_)
    · refine G_subR (Sub_lit (t := 10) (v := true) rfl h1) ?_
      refine G_op [0] (v := (.box [1001] 1)) (E_p (by kernel_rfl)) rfl rfl ?_
      refine G_op [0] (v := (.val (.int .i64 p_a.Short))) (E_load (by kernel_rfl)) rfl rfl ?_
      refine G_op [0] (v := (.box [1002] 1)) (E_p (by kernel_rfl)) rfl rfl ?_
      refine G_op [0] (v := (.val (.int .i64 p_b.Short))) (E_load (by kernel_rfl)) rfl rfl ?_
      refine G_op [0] (v := (.val (.bool (decide (p_a.Short ≥ p_b.Short))))) (E_p (by kernel_rfl)) rfl rfl ?_
      refine G_op [0] (v := (.val (.bool (decide (p_a.Short ≥ p_b.Short))))) (E_p (by kernel_rfl)) rfl rfl ?_
      exact q_some fun h => RP_sub (by exact Sub_env ⟨(Wk_and1 h1), .refl _, .refl _, .refl _, trivial⟩) h
    · refine G_subR (Sub_lit (t := 10) (v := false) rfl h1) ?_
      refine G_off rfl rfl ?_
      refine G_off rfl rfl ?_
      refine G_off rfl rfl ?_
      refine G_off rfl rfl ?_
      refine G_off rfl rfl ?_
      refine G_op [0] (v := (.val (.bool false))) (E_p (by kernel_rfl)) rfl rfl ?_
      exact q_some fun h => RP_sub (by exact Sub_env ⟨(Wk_and0 h1), .refl _, .refl _, .refl _, trivial⟩) h
theorem s30 (x0 : ExpoT) (x1 : ExpoT) (ds : List DV) (hd : List.map z1 ds = List.map z1 [.agg (e_ExpoT x0), .agg (e_ExpoT x1)]) : sp30 ds = (g_cell_Covers x0 x1).map fun r => .bool r :=
  specT_at (ea := fun (a : ExpoT × ExpoT) => [.agg (e_ExpoT a.1), .agg (e_ExpoT a.2)]) (eb := fun (r : Bool) => .bool r) (g := fun (a : ExpoT × ExpoT) => g_cell_Covers a.1 a.2) inj30 (x0, x1) hd
end Go.AI
