import Derived.Test.YtgelpkghkgagfaaLa
namespace Go.AI
open Go.Proofs
set_option linter.unusedVariables false
set_option linter.unusedSimpArgs false
def t9_4 : List AIns := (⟨(some 44), (.p (.pick (.t 37) (.c (.bool true)) (.t 43))), none⟩ :: [])
def t9_5 : List AIns := (⟨(some 55), (.p (.mv (.t 54))), none⟩ :: ⟨(some 56), (.p (.mv (.t 9))), (some (55, true))⟩ :: ⟨(some 57), (.p (.un .not (.t 56))), (some (55, true))⟩ :: ⟨(some 58), (.p (.pick (.t 55) (.t 57) (.c (.bool false)))), none⟩ :: [])
def t9_3 : List AIns := (⟨(some 37), (.p (.mv (.t 36))), none⟩ :: ⟨(some 38), (.r (.load 3 true (.t 6))), (some (37, false))⟩ :: ⟨(some 39), (.r (.load 3 true (.t 5))), (some (37, false))⟩ :: ⟨(some 40), (.r (.call 30 [(.t 38), (.t 39)])), (some (37, false))⟩ :: ⟨(some 41), (.p (.mv (.t 40))), (some (37, false))⟩ :: ⟨(some 42), (.p (.mv (.t 9))), (some (41, true))⟩ :: ⟨(some 43), (.p (.pick (.t 41) (.t 42) (.c (.bool false)))), (some (37, false))⟩ :: t9_4)
def t9_2 : List AIns := (⟨(some 36), (.p (.pick (.t 29) (.c (.bool true)) (.t 35))), none⟩ :: t9_3)
def t9_1 : List AIns := (⟨(some 29), (.p (.mv (.t 28))), none⟩ :: ⟨(some 30), (.r (.load 3 true (.t 4))), (some (29, false))⟩ :: ⟨(some 31), (.r (.load 3 true (.t 5))), (some (29, false))⟩ :: ⟨(some 32), (.r (.call 30 [(.t 30), (.t 31)])), (some (29, false))⟩ :: ⟨(some 33), (.p (.mv (.t 32))), (some (29, false))⟩ :: ⟨(some 34), (.p (.mv (.t 9))), (some (33, true))⟩ :: ⟨(some 35), (.p (.pick (.t 33) (.t 34) (.c (.bool false)))), (some (29, false))⟩ :: t9_2)
def t9_0 : List AIns := (⟨(some 23), (.p (.mv (.t 22))), none⟩ :: ⟨(some 24), (.r (.load 3 true (.t 6))), (some (23, true))⟩ :: ⟨(some 25), (.r (.load 3 true (.t 5))), (some (23, true))⟩ :: ⟨(some 26), (.r (.call 30 [(.t 24), (.t 25)])), (some (23, true))⟩ :: ⟨(some 27), (.p (.un .not (.t 26))), (some (23, true))⟩ :: ⟨(some 28), (.p (.pick (.t 23) (.t 27) (.c (.bool false)))), none⟩ :: t9_1)
def k9_0 : ACode := (.region (⟨(some 4), (.a (.bx (.t 0))), none⟩ :: ⟨(some 5), (.a (.bx (.t 1))), none⟩ :: ⟨(some 6), (.a (.bx (.t 2))), none⟩ :: ⟨(some 7), (.a (.bx (.t 3))), none⟩ :: ⟨(some 8), (.p (.mv (.c (.bool false)))), none⟩ :: []))
def k9_1 : ACode := (.seq (.region (⟨(some 10), (.r (.call 19 [])), none⟩ :: ⟨(some 11), (.p (.un .not (.t 10))), none⟩ :: [])) (.cond (.t 11) (.seq (.region (⟨(some 8), (.p (.mv (.c (.bool false)))), none⟩ :: [])) .ret) .skip))
def k9_2 : ACode := (.region (⟨(some 12), (.r (.load 3 true (.t 4))), none⟩ :: ⟨(some 13), (.r (.load 3 true (.t 5))), none⟩ :: ⟨(some 14), (.r (.load 3 true (.t 6))), none⟩ :: ⟨(some 15), (.r (.call 24 [(.t 12), (.t 13), (.t 14)])), none⟩ :: ⟨(some 9), (.p (.mv (.t 15))), none⟩ :: []))
def k9_3 : ACode := (.region (⟨(some 16), (.r (.load 3 true (.t 6))), none⟩ :: ⟨(some 17), (.r (.load 3 true (.t 4))), none⟩ :: ⟨(some 18), (.r (.call 30 [(.t 16), (.t 17)])), none⟩ :: ⟨(some 19), (.p (.mv (.t 18))), none⟩ :: ⟨(some 20), (.p (.mv (.t 9))), (some (19, true))⟩ :: ⟨(some 21), (.p (.un .not (.t 20))), (some (19, true))⟩ :: ⟨(some 22), (.p (.pick (.t 19) (.t 21) (.c (.bool false)))), none⟩ :: t9_0))
def k9_4 : ACode := (.seq k9_3 (.cond (.t 44) (.seq (.region (⟨(some 8), (.p (.mv (.c (.bool false)))), none⟩ :: [])) .ret) .skip))
def k9_5 : ACode := (.region (⟨(some 45), (.r (.load 3 true (.t 6))), none⟩ :: ⟨(some 46), (.r (.load 3 true (.t 7))), none⟩ :: ⟨(some 47), (.r (.call 28 [(.t 45), (.t 46)])), none⟩ :: ⟨(some 48), (.p (.un .not (.t 47))), none⟩ :: ⟨(some 49), (.p (.mv (.t 48))), none⟩ :: ⟨(some 50), (.r (.load 3 true (.t 4))), (some (49, true))⟩ :: ⟨(some 51), (.r (.load 3 true (.t 5))), (some (49, true))⟩ :: ⟨(some 52), (.r (.load 3 true (.t 7))), (some (49, true))⟩ :: ⟨(some 53), (.r (.call 24 [(.t 50), (.t 51), (.t 52)])), (some (49, true))⟩ :: ⟨(some 54), (.p (.pick (.t 49) (.t 53) (.c (.bool false)))), none⟩ :: t9_5))
def k9_6 : ACode := (.seq k9_5 (.cond (.t 58) (.seq (.region (⟨(some 8), (.p (.mv (.c (.bool false)))), none⟩ :: [])) .ret) .skip))
def k9_7 : ACode := (.draw (⟨(some 59), (.r (.load 3 true (.t 4))), none⟩ :: ⟨(some 60), (.r (.load 3 true (.t 5))), none⟩ :: ⟨(some 61), (.r (.call 28 [(.t 59), (.t 60)])), none⟩ :: ⟨(some 62), (.r (.load 3 true (.t 5))), none⟩ :: ⟨(some 63), (.r (.load 3 true (.t 4))), none⟩ :: ⟨(some 64), (.r (.call 30 [(.t 62), (.t 63)])), none⟩ :: ⟨(some 65), (.p (.un .not (.t 64))), none⟩ :: ⟨(some 66), (.p (.eqb false (.t 61) (.t 65))), none⟩ :: ⟨(some 8), (.p (.mv (.t 66))), none⟩ :: []))
def k9_8 : ACode := (.seq k9_7 .ret)
def k9_9 : ACode := (.seq k9_6 k9_8)
def k9_10 : ACode := (.seq k9_4 k9_9)
def k9_11 : ACode := (.seq k9_2 k9_10)
def k9_12 : ACode := (.seq k9_1 k9_11)
def cd9 : ACode := (.seq k9_0 k9_12)
def rs9 : List ARes := [(.tmp 8)]
def af9 : AFn := ⟨cd9, rs9, 67⟩
theorem c9 : compF Try.prog 9 = some af9 := by kernel_rfl
noncomputable def g_snafflelaw09_LimitKeeps (p_was : ExpoT) (p_now : ExpoT) (p_l : ExpoT) (p_m : ExpoT) : Option Bool := (Option.bind (g_snafflelaw09_awake) fun v1 => (bif (!v1) then (some false) else (Option.bind (g_limit_Against p_was p_now p_l) fun v2 => (Option.bind (g_cell_Covers p_l p_was) fun v3 => (Option.bind (bif (v3 && (!v2)) then (Option.bind (g_cell_Covers p_l p_now) fun v34 => (some (!v34))) else (some false)) fun (b8 : Bool) => (Option.bind (bif b8 then (some true) else (Option.bind (g_cell_Covers p_was p_now) fun v30 => (some (v30 && v2)))) fun (b11 : Bool) => (Option.bind (bif b11 then (some true) else (Option.bind (g_cell_Covers p_l p_now) fun v26 => (some (v26 && v2)))) fun (b14 : Bool) => (bif b14 then (some false) else (Option.bind (g_limit_Lowers p_l p_m) fun v16 => (Option.bind (bif (!v16) then (Option.bind (g_limit_Against p_was p_now p_m) fun v25 => (some v25)) else (some false)) fun (b18 : Bool) => (bif (b18 && (!v2)) then (some false) else (Option.bind (g_limit_Lowers p_was p_now) fun v23 => (Option.bind (g_cell_Covers p_now p_was) fun v24 => (some (v23 == (!v24))))))))))))))))
noncomputable def sp9 : List DV → Option DV := specT (fun (a : ExpoT × ExpoT × ExpoT × ExpoT) => [.agg (e_ExpoT a.1), .agg (e_ExpoT a.2.1), .agg (e_ExpoT a.2.2.1), .agg (e_ExpoT a.2.2.2)]) (fun (r : Bool) => .bool r) (fun (a : ExpoT × ExpoT × ExpoT × ExpoT) => g_snafflelaw09_LimitKeeps a.1 a.2.1 a.2.2.1 a.2.2.2)
theorem inj9 : ∀ (a b : ExpoT × ExpoT × ExpoT × ExpoT), List.map z1 ((fun (a : ExpoT × ExpoT × ExpoT × ExpoT) => [.agg (e_ExpoT a.1), .agg (e_ExpoT a.2.1), .agg (e_ExpoT a.2.2.1), .agg (e_ExpoT a.2.2.2)]) a) = List.map z1 ((fun (a : ExpoT × ExpoT × ExpoT × ExpoT) => [.agg (e_ExpoT a.1), .agg (e_ExpoT a.2.1), .agg (e_ExpoT a.2.2.1), .agg (e_ExpoT a.2.2.2)]) b) → a = b := by
  rintro ⟨a0, a1, a2, a3⟩ ⟨b0, b1, b2, b3⟩ h
  simp only [List.map_cons, List.map_nil, List.cons.injEq, and_true] at h
  obtain ⟨h0, h1, h2, h3⟩ := h
  exact (pair_eq (e_ExpoT_inj (DV.agg.inj h0)) (pair_eq (e_ExpoT_inj (DV.agg.inj h1)) (pair_eq (e_ExpoT_inj (DV.agg.inj h2)) (e_ExpoT_inj (DV.agg.inj h3)))))
set_option maxHeartbeats 1000000 in
theorem w9 {C : FuncId → Con} (hC : ConOk Try.prog C) {q19 : List DV → Option DV} (hc19 : C 19 = .val q19) (hs19 : ∀ (ds : List DV), List.map z1 ds = List.map z1 [] → q19 ds = (g_snafflelaw09_awake).map fun r => .bool r) {q24 : List DV → Option DV} (hc24 : C 24 = .val q24) (hs24 : ∀ (x0 : ExpoT) (x1 : ExpoT) (x2 : ExpoT) (ds : List DV), List.map z1 ds = List.map z1 [.agg (e_ExpoT x0), .agg (e_ExpoT x1), .agg (e_ExpoT x2)] → q24 ds = (g_limit_Against x0 x1 x2).map fun r => .bool r) {q30 : List DV → Option DV} (hc30 : C 30 = .val q30) (hs30 : ∀ (x0 : ExpoT) (x1 : ExpoT) (ds : List DV), List.map z1 ds = List.map z1 [.agg (e_ExpoT x0), .agg (e_ExpoT x1)] → q30 ds = (g_cell_Covers x0 x1).map fun r => .bool r) {q28 : List DV → Option DV} (hc28 : C 28 = .val q28) (hs28 : ∀ (x0 : ExpoT) (x1 : ExpoT) (ds : List DV), List.map z1 ds = List.map z1 [.agg (e_ExpoT x0), .agg (e_ExpoT x1)] → q28 ds = (g_limit_Lowers x0 x1).map fun r => .bool r) : ValOk Try.prog 9 sp9 := by
  refine valT_of hC c9 _ _ _ inj9 ?_
  rintro ⟨p_was, p_now, p_l, p_m⟩
  show Imq (g_snafflelaw09_LimitKeeps p_was p_now p_l p_m) (fun _ => True) fun r => WP Try.prog C (fun _ => False) cd9 (retQ fun s => outV s rs9 = some (.bool r)) ⟨⟨67, [(0, (.val (.agg [(.int .i64 p_was.Long), (.int .i64 p_was.Short), (.int .i64 p_was.Open)]))), (1, (.val (.agg [(.int .i64 p_now.Long), (.int .i64 p_now.Short), (.int .i64 p_now.Open)]))), (2, (.val (.agg [(.int .i64 p_l.Long), (.int .i64 p_l.Short), (.int .i64 p_l.Open)]))), (3, (.val (.agg [(.int .i64 p_m.Long), (.int .i64 p_m.Short), (.int .i64 p_m.Open)])))]⟩, mkH []⟩
  unfold g_snafflelaw09_LimitKeeps
  refine G_seq ?_
  refine G_region ?_
  refine G_op [1001] (v := (.box [1001] 0)) (E_a (u := (.box [1001] 0)) (b := (.box [(.val (.int .i64 p_was.Long)), (.val (.int .i64 p_was.Short)), (.val (.int .i64 p_was.Open))])) (h' := [([1001], (.box [(.val (.int .i64 p_was.Long)), (.val (.int .i64 p_was.Short)), (.val (.int .i64 p_was.Open))]))]) (by kernel_rfl) (by kernel_rfl) (by kernel_rfl)) rfl rfl ?_
  refine G_op [1002] (v := (.box [1002] 0)) (E_a (u := (.box [1002] 0)) (b := (.box [(.val (.int .i64 p_now.Long)), (.val (.int .i64 p_now.Short)), (.val (.int .i64 p_now.Open))])) (h' := [([1001], (.box [(.val (.int .i64 p_was.Long)), (.val (.int .i64 p_was.Short)), (.val (.int .i64 p_was.Open))])), ([1002], (.box [(.val (.int .i64 p_now.Long)), (.val (.int .i64 p_now.Short)), (.val (.int .i64 p_now.Open))]))]) (by kernel_rfl) (by kernel_rfl) (by kernel_rfl)) rfl rfl ?_
  refine G_op [1003] (v := (.box [1003] 0)) (E_a (u := (.box [1003] 0)) (b := (.box [(.val (.int .i64 p_l.Long)), (.val (.int .i64 p_l.Short)), (.val (.int .i64 p_l.Open))])) (h' := [([1001], (.box [(.val (.int .i64 p_was.Long)), (.val (.int .i64 p_was.Short)), (.val (.int .i64 p_was.Open))])), ([1002], (.box [(.val (.int .i64 p_now.Long)), (.val (.int .i64 p_now.Short)), (.val (.int .i64 p_now.Open))])), ([1003], (.box [(.val (.int .i64 p_l.Long)), (.val (.int .i64 p_l.Short)), (.val (.int .i64 p_l.Open))]))]) (by kernel_rfl) (by kernel_rfl) (by kernel_rfl)) rfl rfl ?_
  refine G_op [1004] (v := (.box [1004] 0)) (E_a (u := (.box [1004] 0)) (b := (.box [(.val (.int .i64 p_m.Long)), (.val (.int .i64 p_m.Short)), (.val (.int .i64 p_m.Open))])) (h' := [([1001], (.box [(.val (.int .i64 p_was.Long)), (.val (.int .i64 p_was.Short)), (.val (.int .i64 p_was.Open))])), ([1002], (.box [(.val (.int .i64 p_now.Long)), (.val (.int .i64 p_now.Short)), (.val (.int .i64 p_now.Open))])), ([1003], (.box [(.val (.int .i64 p_l.Long)), (.val (.int .i64 p_l.Short)), (.val (.int .i64 p_l.Open))])), ([1004], (.box [(.val (.int .i64 p_m.Long)), (.val (.int .i64 p_m.Short)), (.val (.int .i64 p_m.Open))]))]) (by kernel_rfl) (by kernel_rfl) (by kernel_rfl)) rfl rfl ?_
  refine G_op [0] (v := (.val (.bool false))) (E_p (by kernel_rfl)) rfl rfl ?_
  refine G_nil ?_
  refine G_then ?_
  refine G_seq ?_
  refine G_seq ?_
  refine G_region ?_
  refine q_bind fun v1 hv1 => ?_
  refine G_op [0] (v := (.val (.bool v1))) (E_call (ds := []) (r := .bool v1) hc19 (by kernel_rfl) ((hs19 _ (by kernel_rfl)).trans (congrArg _ hv1))) rfl rfl ?_
  refine G_op [0] (v := (.val (.bool (!v1)))) (E_p (by kernel_rfl)) rfl rfl ?_
  refine G_nil ?_
  refine G_then ?_
  refine G_cond (t := (!v1)) (by kernel_rfl) (fun _ => ?_) (fun _ => ?_)
  · refine G_seq ?_
    refine G_region ?_
    refine G_op [0] (v := (.val (.bool false))) (E_p (by kernel_rfl)) rfl rfl ?_
    refine G_nil ?_
    refine G_then ?_
    refine G_ret ?_
    refine G_thenR ?_
    refine G_retR ?_
    refine q_some fun hA => ?_
    show outV _ _ = some _
    kernel_rfl
  · refine G_skip ?_
    refine G_then ?_
    refine G_seq ?_
    refine G_region ?_
    refine G_op [0] (v := (.agg [(.val (.int .i64 p_was.Long)), (.val (.int .i64 p_was.Short)), (.val (.int .i64 p_was.Open))])) (E_load (by kernel_rfl)) rfl rfl ?_
    refine G_op [0] (v := (.agg [(.val (.int .i64 p_now.Long)), (.val (.int .i64 p_now.Short)), (.val (.int .i64 p_now.Open))])) (E_load (by kernel_rfl)) rfl rfl ?_
    refine G_op [0] (v := (.agg [(.val (.int .i64 p_l.Long)), (.val (.int .i64 p_l.Short)), (.val (.int .i64 p_l.Open))])) (E_load (by kernel_rfl)) rfl rfl ?_
    refine q_bind fun v2 hv2 => ?_
    refine G_op [0] (v := (.val (.bool v2))) (E_call (ds := [.agg (e_ExpoT p_was), .agg (e_ExpoT p_now), .agg (e_ExpoT p_l)]) (r := .bool v2) hc24 (by kernel_rfl) ((hs24 p_was p_now p_l _ (by kernel_rfl)).trans (congrArg _ hv2))) rfl rfl ?_
    refine G_op [0] (v := (.val (.bool v2))) (E_p (by kernel_rfl)) rfl rfl ?_
    refine G_nil ?_
    refine G_then ?_
    refine G_subW (s0 := ⟨⟨67, [(9, (.val (.bool v2))), (8, (.val (.bool false))), (7, (.box [1004] 0)), (6, (.box [1003] 0)), (5, (.box [1002] 0)), (4, (.box [1001] 0))]⟩, mkH [([1001], (.box [(.val (.int .i64 p_was.Long)), (.val (.int .i64 p_was.Short)), (.val (.int .i64 p_was.Open))])), ([1002], (.box [(.val (.int .i64 p_now.Long)), (.val (.int .i64 p_now.Short)), (.val (.int .i64 p_now.Open))])), ([1003], (.box [(.val (.int .i64 p_l.Long)), (.val (.int .i64 p_l.Short)), (.val (.int .i64 p_l.Open))])), ([1004], (.box [(.val (.int .i64 p_m.Long)), (.val (.int .i64 p_m.Short)), (.val (.int .i64 p_m.Open))]))]⟩) (by exact Sub_env ⟨.refl _, .refl _, .refl _, .refl _, .refl _, .refl _, trivial⟩) ?_
    refine G_seq ?_
    refine G_seq ?_
    refine G_region ?_
    refine G_op [0] (v := (.agg [(.val (.int .i64 p_l.Long)), (.val (.int .i64 p_l.Short)), (.val (.int .i64 p_l.Open))])) (E_load (by kernel_rfl)) rfl rfl ?_
    refine G_op [0] (v := (.agg [(.val (.int .i64 p_was.Long)), (.val (.int .i64 p_was.Short)), (.val (.int .i64 p_was.Open))])) (E_load (by kernel_rfl)) rfl rfl ?_
    refine q_bind fun v3 hv3 => ?_
    refine G_op [0] (v := (.val (.bool v3))) (E_call (ds := [.agg (e_ExpoT p_l), .agg (e_ExpoT p_was)]) (r := .bool v3) hc30 (by kernel_rfl) ((hs30 p_l p_was _ (by kernel_rfl)).trans (congrArg _ hv3))) rfl rfl ?_
    refine G_op [0] (v := (.val (.bool v3))) (E_p (by kernel_rfl)) rfl rfl ?_
    refine G_pure (l := t9_0) (st := ⟨⟨67, [(22, (.val (.bool (v3 && (!v2))))), (9, (.val (.bool v2))), (8, (.val (.bool false))), (7, (.box [1004] 0)), (6, (.box [1003] 0)), (5, (.box [1002] 0)), (4, (.box [1001] 0))]⟩, mkH [([1001], (.box [(.val (.int .i64 p_was.Long)), (.val (.int .i64 p_was.Short)), (.val (.int .i64 p_was.Open))])), ([1002], (.box [(.val (.int .i64 p_now.Long)), (.val (.int .i64 p_now.Short)), (.val (.int .i64 p_now.Open))])), ([1003], (.box [(.val (.int .i64 p_l.Long)), (.val (.int .i64 p_l.Short)), (.val (.int .i64 p_l.Open))])), ([1004], (.box [(.val (.int .i64 p_m.Long)), (.val (.int .i64 p_m.Short)), (.val (.int .i64 p_m.Open))]))]⟩) ?_ (fun r6 => ?_)
    · refine G_op [0] (v := (.val (.bool (v3 && (!v2))))) (E_p (by kernel_rfl)) rfl rfl ?_
      refine G_joinR (l := t9_1) (st := fun (b8 : Bool) => ⟨⟨67, [(28, (.val (.bool b8))), (9, (.val (.bool v2))), (8, (.val (.bool false))), (7, (.box [1004] 0)), (6, (.box [1003] 0)), (5, (.box [1002] 0)), (4, (.box [1001] 0))]⟩, mkH [([1001], (.box [(.val (.int .i64 p_was.Long)), (.val (.int .i64 p_was.Short)), (.val (.int .i64 p_was.Open))])), ([1002], (.box [(.val (.int .i64 p_now.Long)), (.val (.int .i64 p_now.Short)), (.val (.int .i64 p_now.Open))])), ([1003], (.box [(.val (.int .i64 p_l.Long)), (.val (.int .i64 p_l.Short)), (.val (.int .i64 p_l.Open))])), ([1004], (.box [(.val (.int .i64 p_m.Long)), (.val (.int .i64 p_m.Short)), (.val (.int .i64 p_m.Open))]))]⟩) (fun b8 => ?_) (fun r9 hr9 => ?_)
      · refine G_op [0] (v := (.val (.bool b8))) (E_p (by kernel_rfl)) rfl rfl ?_
        refine G_joinR (l := t9_3) (st := fun (b11 : Bool) => ⟨⟨67, [(36, (.val (.bool b11))), (9, (.val (.bool v2))), (8, (.val (.bool false))), (7, (.box [1004] 0)), (6, (.box [1003] 0)), (5, (.box [1002] 0)), (4, (.box [1001] 0))]⟩, mkH [([1001], (.box [(.val (.int .i64 p_was.Long)), (.val (.int .i64 p_was.Short)), (.val (.int .i64 p_was.Open))])), ([1002], (.box [(.val (.int .i64 p_now.Long)), (.val (.int .i64 p_now.Short)), (.val (.int .i64 p_now.Open))])), ([1003], (.box [(.val (.int .i64 p_l.Long)), (.val (.int .i64 p_l.Short)), (.val (.int .i64 p_l.Open))])), ([1004], (.box [(.val (.int .i64 p_m.Long)), (.val (.int .i64 p_m.Short)), (.val (.int .i64 p_m.Open))]))]⟩) (fun b11 => ?_) (fun r12 hr12 => ?_)
        · refine G_op [0] (v := (.val (.bool b11))) (E_p (by kernel_rfl)) rfl rfl ?_
          refine G_joinR (l := []) (st := fun (b14 : Bool) => ⟨⟨67, [(44, (.val (.bool b14))), (9, (.val (.bool v2))), (8, (.val (.bool false))), (7, (.box [1004] 0)), (6, (.box [1003] 0)), (5, (.box [1002] 0)), (4, (.box [1001] 0))]⟩, mkH [([1001], (.box [(.val (.int .i64 p_was.Long)), (.val (.int .i64 p_was.Short)), (.val (.int .i64 p_was.Open))])), ([1002], (.box [(.val (.int .i64 p_now.Long)), (.val (.int .i64 p_now.Short)), (.val (.int .i64 p_now.Open))])), ([1003], (.box [(.val (.int .i64 p_l.Long)), (.val (.int .i64 p_l.Short)), (.val (.int .i64 p_l.Open))])), ([1004], (.box [(.val (.int .i64 p_m.Long)), (.val (.int .i64 p_m.Short)), (.val (.int .i64 p_m.Open))]))]⟩) (fun b14 => ?_) (fun r15 hr15 => ?_)
          · refine G_nil ?_
            refine G_then ?_
            refine G_cond (t := b14) (by kernel_rfl) (fun _ => ?_) (fun _ => ?_)
            · refine G_seq ?_
              refine G_region ?_
              refine G_op [0] (v := (.val (.bool false))) (E_p (by kernel_rfl)) rfl rfl ?_
              refine G_nil ?_
              refine G_then ?_
              refine G_ret ?_
              refine G_thenR ?_
              refine G_retR ?_
              refine q_some fun hA => ?_
              show outV _ _ = some _
              kernel_rfl
            · refine G_skip ?_
              refine G_then ?_
              refine G_seq ?_
              refine G_seq ?_
              refine G_region ?_
              refine G_op [0] (v := (.agg [(.val (.int .i64 p_l.Long)), (.val (.int .i64 p_l.Short)), (.val (.int .i64 p_l.Open))])) (E_load (by kernel_rfl)) rfl rfl ?_
              refine G_op [0] (v := (.agg [(.val (.int .i64 p_m.Long)), (.val (.int .i64 p_m.Short)), (.val (.int .i64 p_m.Open))])) (E_load (by kernel_rfl)) rfl rfl ?_
              refine q_bind fun v16 hv16 => ?_
              refine G_op [0] (v := (.val (.bool v16))) (E_call (ds := [.agg (e_ExpoT p_l), .agg (e_ExpoT p_m)]) (r := .bool v16) hc28 (by kernel_rfl) ((hs28 p_l p_m _ (by kernel_rfl)).trans (congrArg _ hv16))) rfl rfl ?_
              refine G_op [0] (v := (.val (.bool (!v16)))) (E_p (by kernel_rfl)) rfl rfl ?_
              refine G_op [0] (v := (.val (.bool (!v16)))) (E_p (by kernel_rfl)) rfl rfl ?_
              refine G_joinR (l := t9_5) (st := fun (b18 : Bool) => ⟨⟨67, [(54, (.val (.bool b18))), (9, (.val (.bool v2))), (8, (.val (.bool false))), (5, (.box [1002] 0)), (4, (.box [1001] 0))]⟩, mkH [([1001], (.box [(.val (.int .i64 p_was.Long)), (.val (.int .i64 p_was.Short)), (.val (.int .i64 p_was.Open))])), ([1002], (.box [(.val (.int .i64 p_now.Long)), (.val (.int .i64 p_now.Short)), (.val (.int .i64 p_now.Open))]))]⟩) (fun b18 => ?_) (fun r19 hr19 => ?_)
              · refine G_op [0] (v := (.val (.bool b18))) (E_p (by kernel_rfl)) rfl rfl ?_
                refine G_pure (l := []) (st := ⟨⟨67, [(58, (.val (.bool (b18 && (!v2))))), (8, (.val (.bool false))), (5, (.box [1002] 0)), (4, (.box [1001] 0))]⟩, mkH [([1001], (.box [(.val (.int .i64 p_was.Long)), (.val (.int .i64 p_was.Short)), (.val (.int .i64 p_was.Open))])), ([1002], (.box [(.val (.int .i64 p_now.Long)), (.val (.int .i64 p_now.Short)), (.val (.int .i64 p_now.Open))]))]⟩) ?_ (fun r22 => ?_)
                · refine G_nil ?_
                  refine G_then ?_
                  refine G_cond (t := (b18 && (!v2))) (by kernel_rfl) (fun _ => ?_) (fun _ => ?_)
                  · refine G_seq ?_
                    refine G_region ?_
                    refine G_op [0] (v := (.val (.bool false))) (E_p (by kernel_rfl)) rfl rfl ?_
                    refine G_nil ?_
                    refine G_then ?_
                    refine G_ret ?_
                    refine G_thenR ?_
                    refine G_retR ?_
                    refine q_some fun hA => ?_
                    show outV _ _ = some _
                    kernel_rfl
                  · refine G_skip ?_
                    refine G_then ?_
                    refine G_seq ?_
                    refine G_draw ?_
                    refine X_op (w := (.agg [(.val (.int .i64 p_was.Long)), (.val (.int .i64 p_was.Short)), (.val (.int .i64 p_was.Open))])) (v := (.agg [(.val (.int .i64 p_was.Long)), (.val (.int .i64 p_was.Short)), (.val (.int .i64 p_was.Open))])) (E_load (by kernel_rfl)) rfl rfl rfl ?_
                    refine X_op (w := (.agg [(.val (.int .i64 p_now.Long)), (.val (.int .i64 p_now.Short)), (.val (.int .i64 p_now.Open))])) (v := (.agg [(.val (.int .i64 p_now.Long)), (.val (.int .i64 p_now.Short)), (.val (.int .i64 p_now.Open))])) (E_load (by kernel_rfl)) rfl rfl rfl ?_
                    refine q_bind fun v23 hv23 => ?_
                    refine X_op (w := (.val (.bool v23))) (v := (.val (.bool v23))) (E_callX (ds := [.agg (e_ExpoT p_was), .agg (e_ExpoT p_now)]) (ids := []) (r := .bool v23) hc28 (by kernel_rfl) ((hs28 p_was p_now _ (by kernel_rfl)).trans (congrArg _ hv23)) (by kernel_rfl)) rfl rfl rfl ?_
                    refine X_op (w := (.agg [(.val (.int .i64 p_now.Long)), (.val (.int .i64 p_now.Short)), (.val (.int .i64 p_now.Open))])) (v := (.agg [(.val (.int .i64 p_now.Long)), (.val (.int .i64 p_now.Short)), (.val (.int .i64 p_now.Open))])) (E_load (by kernel_rfl)) rfl rfl rfl ?_
                    refine X_op (w := (.agg [(.val (.int .i64 p_was.Long)), (.val (.int .i64 p_was.Short)), (.val (.int .i64 p_was.Open))])) (v := (.agg [(.val (.int .i64 p_was.Long)), (.val (.int .i64 p_was.Short)), (.val (.int .i64 p_was.Open))])) (E_load (by kernel_rfl)) rfl rfl rfl ?_
                    refine q_bind fun v24 hv24 => ?_
                    refine X_op (w := (.val (.bool v24))) (v := (.val (.bool v24))) (E_callX (ds := [.agg (e_ExpoT p_now), .agg (e_ExpoT p_was)]) (ids := []) (r := .bool v24) hc30 (by kernel_rfl) ((hs30 p_now p_was _ (by kernel_rfl)).trans (congrArg _ hv24)) (by kernel_rfl)) rfl rfl rfl ?_
                    refine X_op (w := (.val (.bool (!v24)))) (v := (.val (.bool (!v24)))) (E_p (by kernel_rfl)) rfl rfl rfl ?_
                    refine X_op (w := (.val (.bool (v23 == (!v24))))) (v := (.val (.bool (v23 == (!v24))))) (E_p (by kernel_rfl)) rfl rfl rfl ?_
                    refine X_op (w := (.val (.bool (v23 == (!v24))))) (v := (.val (.bool (v23 == (!v24))))) (E_p (by kernel_rfl)) rfl rfl rfl ?_
                    refine X_nil (m := [(8, (.val (.bool (v23 == (!v24)))))]) (by exact ⟨rfl, trivial⟩) ?_
                    refine G_then ?_
                    refine G_ret ?_
                    refine G_retR ?_
                    refine q_some fun hA => ?_
                    show outV _ _ = some _
                    kernel_rfl
                · refine q_two b18 (fun h20 => ?_) (fun h20 => ?_)
                  · refine G_subR (Sub_lit (t := 55) (v := true) rfl h20) ?_
                    refine G_op [0] (v := (.val (.bool v2))) (E_p (by kernel_rfl)) rfl rfl ?_
                    refine G_op [0] (v := (.val (.bool (!v2)))) (E_p (by kernel_rfl)) rfl rfl ?_
                    refine G_op [0] (v := (.val (.bool (!v2)))) (E_p (by kernel_rfl)) rfl rfl ?_
                    exact q_some fun h => RP_sub (by exact Sub_env ⟨(Wk_and1 h20), .refl _, .refl _, .refl _, trivial⟩) h
                  · refine G_subR (Sub_lit (t := 55) (v := false) rfl h20) ?_
                    refine G_off rfl rfl ?_
                    refine G_off rfl rfl ?_
                    refine G_op [0] (v := (.val (.bool false))) (E_p (by kernel_rfl)) rfl rfl ?_
                    exact q_some fun h => RP_sub (by exact Sub_env ⟨(Wk_and0 h20), .refl _, .refl _, .refl _, trivial⟩) h
              · refine q_bif (fun h17 => ?_) (fun h17 => ?_)
                · refine G_subR (Sub_lit (t := 49) (v := true) rfl h17) ?_
                  refine G_op [0] (v := (.agg [(.val (.int .i64 p_was.Long)), (.val (.int .i64 p_was.Short)), (.val (.int .i64 p_was.Open))])) (E_load (by kernel_rfl)) rfl rfl ?_
                  refine G_op [0] (v := (.agg [(.val (.int .i64 p_now.Long)), (.val (.int .i64 p_now.Short)), (.val (.int .i64 p_now.Open))])) (E_load (by kernel_rfl)) rfl rfl ?_
                  refine G_op [0] (v := (.agg [(.val (.int .i64 p_m.Long)), (.val (.int .i64 p_m.Short)), (.val (.int .i64 p_m.Open))])) (E_load (by kernel_rfl)) rfl rfl ?_
                  refine q_bind fun v25 hv25 => ?_
                  refine G_op [0] (v := (.val (.bool v25))) (E_call (ds := [.agg (e_ExpoT p_was), .agg (e_ExpoT p_now), .agg (e_ExpoT p_m)]) (r := .bool v25) hc24 (by kernel_rfl) ((hs24 p_was p_now p_m _ (by kernel_rfl)).trans (congrArg _ hv25))) rfl rfl ?_
                  refine G_op [0] (v := (.val (.bool v25))) (E_p (by kernel_rfl)) rfl rfl ?_
                  exact q_some fun h => RP_sub (by exact Sub_keep ⟨.refl _, .refl _, .refl _, .refl _, .refl _, trivial⟩ ⟨⟨_, (by kernel_rfl), .refl _⟩, ⟨_, (by kernel_rfl), .refl _⟩, trivial⟩ (by kernel_rfl) (by kernel_rfl)) h
                · refine G_subR (Sub_lit (t := 49) (v := false) rfl h17) ?_
                  refine G_off rfl rfl ?_
                  refine G_off rfl rfl ?_
                  refine G_off rfl rfl ?_
                  refine G_off rfl rfl ?_
                  refine G_op [0] (v := (.val (.bool false))) (E_p (by kernel_rfl)) rfl rfl ?_
                  exact q_some fun h => RP_sub (by exact Sub_keep ⟨.refl _, .refl _, .refl _, .refl _, .refl _, trivial⟩ ⟨⟨_, (by kernel_rfl), .refl _⟩, ⟨_, (by kernel_rfl), .refl _⟩, trivial⟩ (by kernel_rfl) (by kernel_rfl)) h
          · refine q_bif (fun h13 => ?_) (fun h13 => ?_)
            · refine G_subR (Sub_lit (t := 37) (v := true) rfl h13) ?_
              refine G_off rfl rfl ?_
              refine G_off rfl rfl ?_
              refine G_off rfl rfl ?_
              refine G_off rfl rfl ?_
              refine G_off rfl rfl ?_
              refine G_off rfl rfl ?_
              refine G_op [0] (v := (.val (.bool true))) (E_p (by kernel_rfl)) rfl rfl ?_
              exact q_some fun h => RP_sub (by exact Sub_env ⟨.refl _, .refl _, .refl _, .refl _, .refl _, .refl _, .refl _, trivial⟩) h
            · refine G_subR (Sub_lit (t := 37) (v := false) rfl h13) ?_
              refine G_op [0] (v := (.agg [(.val (.int .i64 p_l.Long)), (.val (.int .i64 p_l.Short)), (.val (.int .i64 p_l.Open))])) (E_load (by kernel_rfl)) rfl rfl ?_
              refine G_op [0] (v := (.agg [(.val (.int .i64 p_now.Long)), (.val (.int .i64 p_now.Short)), (.val (.int .i64 p_now.Open))])) (E_load (by kernel_rfl)) rfl rfl ?_
              refine q_bind fun v26 hv26 => ?_
              refine G_op [0] (v := (.val (.bool v26))) (E_call (ds := [.agg (e_ExpoT p_l), .agg (e_ExpoT p_now)]) (r := .bool v26) hc30 (by kernel_rfl) ((hs30 p_l p_now _ (by kernel_rfl)).trans (congrArg _ hv26))) rfl rfl ?_
              refine G_op [0] (v := (.val (.bool v26))) (E_p (by kernel_rfl)) rfl rfl ?_
              refine G_pure (l := t9_4) (st := ⟨⟨67, [(43, (.val (.bool (v26 && v2)))), (37, (.val (.bool false))), (9, (.val (.bool v2))), (8, (.val (.bool false))), (7, (.box [1004] 0)), (6, (.box [1003] 0)), (5, (.box [1002] 0)), (4, (.box [1001] 0))]⟩, mkH [([1001], (.box [(.val (.int .i64 p_was.Long)), (.val (.int .i64 p_was.Short)), (.val (.int .i64 p_was.Open))])), ([1002], (.box [(.val (.int .i64 p_now.Long)), (.val (.int .i64 p_now.Short)), (.val (.int .i64 p_now.Open))])), ([1003], (.box [(.val (.int .i64 p_l.Long)), (.val (.int .i64 p_l.Short)), (.val (.int .i64 p_l.Open))])), ([1004], (.box [(.val (.int .i64 p_m.Long)), (.val (.int .i64 p_m.Short)), (.val (.int .i64 p_m.Open))]))]⟩) ?_ (fun r29 => ?_)
              · refine G_op [0] (v := (.val (.bool (v26 && v2)))) (E_p (by kernel_rfl)) rfl rfl ?_
                exact q_some fun h => RP_sub (by exact Sub_env ⟨.refl _, .refl _, .refl _, .refl _, .refl _, .refl _, .refl _, trivial⟩) h
              · refine q_two v26 (fun h27 => ?_) (fun h27 => ?_)
                · refine G_subR (Sub_lit (t := 41) (v := true) rfl h27) ?_
                  refine G_op [0] (v := (.val (.bool v2))) (E_p (by kernel_rfl)) rfl rfl ?_
                  refine G_op [0] (v := (.val (.bool v2))) (E_p (by kernel_rfl)) rfl rfl ?_
                  exact q_some fun h => RP_sub (by exact Sub_env ⟨(Wk_and1 h27), .refl _, .refl _, .refl _, .refl _, .refl _, .refl _, .refl _, trivial⟩) h
                · refine G_subR (Sub_lit (t := 41) (v := false) rfl h27) ?_
                  refine G_off rfl rfl ?_
                  refine G_op [0] (v := (.val (.bool false))) (E_p (by kernel_rfl)) rfl rfl ?_
                  exact q_some fun h => RP_sub (by exact Sub_env ⟨(Wk_and0 h27), .refl _, .refl _, .refl _, .refl _, .refl _, .refl _, .refl _, trivial⟩) h
        · refine q_bif (fun h10 => ?_) (fun h10 => ?_)
          · refine G_subR (Sub_lit (t := 29) (v := true) rfl h10) ?_
            refine G_off rfl rfl ?_
            refine G_off rfl rfl ?_
            refine G_off rfl rfl ?_
            refine G_off rfl rfl ?_
            refine G_off rfl rfl ?_
            refine G_off rfl rfl ?_
            refine G_op [0] (v := (.val (.bool true))) (E_p (by kernel_rfl)) rfl rfl ?_
            exact q_some fun h => RP_sub (by exact Sub_env ⟨.refl _, .refl _, .refl _, .refl _, .refl _, .refl _, .refl _, trivial⟩) h
          · refine G_subR (Sub_lit (t := 29) (v := false) rfl h10) ?_
            refine G_op [0] (v := (.agg [(.val (.int .i64 p_was.Long)), (.val (.int .i64 p_was.Short)), (.val (.int .i64 p_was.Open))])) (E_load (by kernel_rfl)) rfl rfl ?_
            refine G_op [0] (v := (.agg [(.val (.int .i64 p_now.Long)), (.val (.int .i64 p_now.Short)), (.val (.int .i64 p_now.Open))])) (E_load (by kernel_rfl)) rfl rfl ?_
            refine q_bind fun v30 hv30 => ?_
            refine G_op [0] (v := (.val (.bool v30))) (E_call (ds := [.agg (e_ExpoT p_was), .agg (e_ExpoT p_now)]) (r := .bool v30) hc30 (by kernel_rfl) ((hs30 p_was p_now _ (by kernel_rfl)).trans (congrArg _ hv30))) rfl rfl ?_
            refine G_op [0] (v := (.val (.bool v30))) (E_p (by kernel_rfl)) rfl rfl ?_
            refine G_pure (l := t9_2) (st := ⟨⟨67, [(35, (.val (.bool (v30 && v2)))), (29, (.val (.bool false))), (9, (.val (.bool v2))), (8, (.val (.bool false))), (7, (.box [1004] 0)), (6, (.box [1003] 0)), (5, (.box [1002] 0)), (4, (.box [1001] 0))]⟩, mkH [([1001], (.box [(.val (.int .i64 p_was.Long)), (.val (.int .i64 p_was.Short)), (.val (.int .i64 p_was.Open))])), ([1002], (.box [(.val (.int .i64 p_now.Long)), (.val (.int .i64 p_now.Short)), (.val (.int .i64 p_now.Open))])), ([1003], (.box [(.val (.int .i64 p_l.Long)), (.val (.int .i64 p_l.Short)), (.val (.int .i64 p_l.Open))])), ([1004], (.box [(.val (.int .i64 p_m.Long)), (.val (.int .i64 p_m.Short)), (.val (.int .i64 p_m.Open))]))]⟩) ?_ (fun r33 => ?_)
            · refine G_op [0] (v := (.val (.bool (v30 && v2)))) (E_p (by kernel_rfl)) rfl rfl ?_
              exact q_some fun h => RP_sub (by exact Sub_env ⟨.refl _, .refl _, .refl _, .refl _, .refl _, .refl _, .refl _, trivial⟩) h
            · refine q_two v30 (fun h31 => ?_) (fun h31 => ?_)
              · refine G_subR (Sub_lit (t := 33) (v := true) rfl h31) ?_
                refine G_op [0] (v := (.val (.bool v2))) (E_p (by kernel_rfl)) rfl rfl ?_
                refine G_op [0] (v := (.val (.bool v2))) (E_p (by kernel_rfl)) rfl rfl ?_
                exact q_some fun h => RP_sub (by exact Sub_env ⟨(Wk_and1 h31), .refl _, .refl _, .refl _, .refl _, .refl _, .refl _, .refl _, trivial⟩) h
              · refine G_subR (Sub_lit (t := 33) (v := false) rfl h31) ?_
                refine G_off rfl rfl ?_
                refine G_op [0] (v := (.val (.bool false))) (E_p (by kernel_rfl)) rfl rfl ?_
                exact q_some fun h => RP_sub (by exact Sub_env ⟨(Wk_and0 h31), .refl _, .refl _, .refl _, .refl _, .refl _, .refl _, .refl _, trivial⟩) h
      · refine q_bif (fun h7 => ?_) (fun h7 => ?_)
        · refine G_subR (Sub_lit (t := 23) (v := true) rfl h7) ?_
          refine G_op [0] (v := (.agg [(.val (.int .i64 p_l.Long)), (.val (.int .i64 p_l.Short)), (.val (.int .i64 p_l.Open))])) (E_load (by kernel_rfl)) rfl rfl ?_
          refine G_op [0] (v := (.agg [(.val (.int .i64 p_now.Long)), (.val (.int .i64 p_now.Short)), (.val (.int .i64 p_now.Open))])) (E_load (by kernel_rfl)) rfl rfl ?_
          refine q_bind fun v34 hv34 => ?_
          refine G_op [0] (v := (.val (.bool v34))) (E_call (ds := [.agg (e_ExpoT p_l), .agg (e_ExpoT p_now)]) (r := .bool v34) hc30 (by kernel_rfl) ((hs30 p_l p_now _ (by kernel_rfl)).trans (congrArg _ hv34))) rfl rfl ?_
          refine G_op [0] (v := (.val (.bool (!v34)))) (E_p (by kernel_rfl)) rfl rfl ?_
          refine G_op [0] (v := (.val (.bool (!v34)))) (E_p (by kernel_rfl)) rfl rfl ?_
          exact q_some fun h => RP_sub (by exact Sub_env ⟨.refl _, .refl _, .refl _, .refl _, .refl _, .refl _, .refl _, trivial⟩) h
        · refine G_subR (Sub_lit (t := 23) (v := false) rfl h7) ?_
          refine G_off rfl rfl ?_
          refine G_off rfl rfl ?_
          refine G_off rfl rfl ?_
          refine G_off rfl rfl ?_
          refine G_op [0] (v := (.val (.bool false))) (E_p (by kernel_rfl)) rfl rfl ?_
          exact q_some fun h => RP_sub (by exact Sub_env ⟨.refl _, .refl _, .refl _, .refl _, .refl _, .refl _, .refl _, trivial⟩) h
    · refine q_two v3 (fun h4 => ?_) (fun h4 => ?_)
      · refine G_subR (Sub_lit (t := 19) (v := true) rfl h4) ?_
        refine G_op [0] (v := (.val (.bool v2))) (E_p (by kernel_rfl)) rfl rfl ?_
        refine G_op [0] (v := (.val (.bool (!v2)))) (E_p (by kernel_rfl)) rfl rfl ?_
        refine G_op [0] (v := (.val (.bool (!v2)))) (E_p (by kernel_rfl)) rfl rfl ?_
        exact q_some fun h => RP_sub (by exact Sub_env ⟨(Wk_and1 h4), .refl _, .refl _, .refl _, .refl _, .refl _, .refl _, trivial⟩) h
      · refine G_subR (Sub_lit (t := 19) (v := false) rfl h4) ?_
        refine G_off rfl rfl ?_
        refine G_off rfl rfl ?_
        refine G_op [0] (v := (.val (.bool false))) (E_p (by kernel_rfl)) rfl rfl ?_
        exact q_some fun h => RP_sub (by exact Sub_env ⟨(Wk_and0 h4), .refl _, .refl _, .refl _, .refl _, .refl _, .refl _, trivial⟩) h
theorem s9 (x0 : ExpoT) (x1 : ExpoT) (x2 : ExpoT) (x3 : ExpoT) (ds : List DV) (hd : List.map z1 ds = List.map z1 [.agg (e_ExpoT x0), .agg (e_ExpoT x1), .agg (e_ExpoT x2), .agg (e_ExpoT x3)]) : sp9 ds = (g_snafflelaw09_LimitKeeps x0 x1 x2 x3).map fun r => .bool r :=
  specT_at (ea := fun (a : ExpoT × ExpoT × ExpoT × ExpoT) => [.agg (e_ExpoT a.1), .agg (e_ExpoT a.2.1), .agg (e_ExpoT a.2.2.1), .agg (e_ExpoT a.2.2.2)]) (eb := fun (r : Bool) => .bool r) (g := fun (a : ExpoT × ExpoT × ExpoT × ExpoT) => g_snafflelaw09_LimitKeeps a.1 a.2.1 a.2.2.1 a.2.2.2) inj9 (x0, x1, x2, x3) hd
end Go.AI
