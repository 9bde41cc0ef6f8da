import Derived.Test.YtpolaeonmmolnaaLb
namespace Go.AI
open Go.Proofs
set_option linter.unusedVariables false
set_option linter.unusedSimpArgs false
def k49_0 : ACode := (.region (⟨(some 8), (.r (.load 12 true (.t 1))), none⟩ :: ⟨(some 9), (.r (.call 41 [(.t 8)])), none⟩ :: ⟨(some 10), (.p (.un .not (.t 9))), none⟩ :: ⟨(some 7), (.p (.mv (.t 10))), none⟩ :: []))
def k49_1 : ACode := (.region (⟨(some 12), (.p (.foff 7 (.t 1))), none⟩ :: ⟨(some 13), (.r (.load 1 false (.t 12))), none⟩ :: ⟨(some 14), (.p (.bin .eql (.t 13) (.c (.int .i64 3)))), none⟩ :: ⟨(some 11), (.p (.mv (.t 14))), none⟩ :: []))
def k49_2 : ACode := (.cond (.t 11) (.seq (.region (⟨(some 2), (.p (.mv (.c (.int .i64 0)))), none⟩ :: ⟨(some 3), (.p (.mv (.c (.int .i64 0)))), none⟩ :: [])) .ret) .skip)
def k49_3 : ACode := (.seq k49_1 k49_2)
def k49_4 : ACode := (.cond (.t 7) (.seq (.region (⟨(some 2), (.p (.mv (.c (.int .i64 0)))), none⟩ :: ⟨(some 3), (.p (.mv (.c (.int .i64 1)))), none⟩ :: [])) .ret) k49_3)
def k49_5 : ACode := (.seq k49_0 k49_4)
def k49_6 : ACode := (.block 0 k49_5)
def k49_7 : ACode := (.region (⟨(some 16), (.p (.foff 4 (.t 1))), none⟩ :: ⟨(some 17), (.r (.load 1 false (.t 16))), none⟩ :: ⟨(some 18), (.p (.foff 6 (.t 1))), none⟩ :: ⟨(some 19), (.r (.load 1 false (.t 18))), none⟩ :: ⟨(some 20), (.p (.bin .sub (.t 17) (.t 19))), none⟩ :: ⟨(some 21), (.p (.foff 5 (.t 1))), none⟩ :: ⟨(some 22), (.r (.load 1 false (.t 21))), none⟩ :: ⟨(some 23), (.r (.call 73 [(.t 20), (.t 22)])), none⟩ :: ⟨(some 15), (.p (.mv (.t 23))), none⟩ :: ⟨(some 24), (.p (.ext (.t 15) 0)), none⟩ :: ⟨(some 25), (.p (.ext (.t 15) 1)), none⟩ :: ⟨(some 4), (.p (.mv (.t 24))), none⟩ :: ⟨(some 5), (.p (.mv (.t 25))), none⟩ :: []))
def k49_8 : ACode := (.region (⟨(some 26), (.p (.mv (.t 5))), none⟩ :: ⟨(some 27), (.p (.bin .neq (.t 26) (.c (.int .i64 0)))), none⟩ :: ⟨(some 28), (.p (.mv (.t 27))), none⟩ :: ⟨(some 29), (.p (.foff 8 (.t 1))), (some (28, false))⟩ :: ⟨(some 30), (.r (.load 1 false (.t 29))), (some (28, false))⟩ :: ⟨(some 31), (.p (.foff 6 (.t 1))), (some (28, false))⟩ :: ⟨(some 32), (.r (.load 1 false (.t 31))), (some (28, false))⟩ :: ⟨(some 33), (.p (.bin .leq (.t 30) (.t 32))), (some (28, false))⟩ :: ⟨(some 34), (.p (.pick (.t 28) (.c (.bool true)) (.t 33))), none⟩ :: []))
def k49_9 : ACode := (.region (⟨(some 35), (.p (.mv (.t 4))), none⟩ :: ⟨(some 36), (.p (.mv (.t 5))), none⟩ :: ⟨(some 2), (.p (.mv (.t 35))), none⟩ :: ⟨(some 3), (.p (.mv (.t 36))), none⟩ :: []))
def k49_10 : ACode := (.seq k49_9 .ret)
def k49_11 : ACode := (.cond (.t 34) k49_10 .skip)
def k49_12 : ACode := (.seq k49_8 k49_11)
def k49_13 : ACode := (.region (⟨(some 38), (.p (.foff 8 (.t 1))), none⟩ :: ⟨(some 39), (.r (.load 1 false (.t 38))), none⟩ :: ⟨(some 40), (.p (.foff 6 (.t 1))), none⟩ :: ⟨(some 41), (.r (.load 1 false (.t 40))), none⟩ :: ⟨(some 42), (.p (.bin .sub (.t 39) (.t 41))), none⟩ :: ⟨(some 43), (.p (.foff 9 (.t 1))), none⟩ :: ⟨(some 44), (.r (.load 1 false (.t 43))), none⟩ :: ⟨(some 45), (.r (.call 73 [(.t 42), (.t 44)])), none⟩ :: ⟨(some 37), (.p (.mv (.t 45))), none⟩ :: ⟨(some 46), (.p (.ext (.t 37) 0)), none⟩ :: ⟨(some 47), (.p (.ext (.t 37) 1)), none⟩ :: ⟨(some 6), (.p (.mv (.t 46))), none⟩ :: ⟨(some 5), (.p (.mv (.t 47))), none⟩ :: []))
def k49_14 : ACode := (.seq (.region (⟨(some 50), (.p (.mv (.t 5))), none⟩ :: ⟨(some 2), (.p (.mv (.c (.int .i64 0)))), none⟩ :: ⟨(some 3), (.p (.mv (.t 50))), none⟩ :: [])) .ret)
def k49_15 : ACode := (.cond (.t 49) k49_14 .skip)
def k49_16 : ACode := (.seq (.region (⟨(some 48), (.p (.mv (.t 5))), none⟩ :: ⟨(some 49), (.p (.bin .neq (.t 48) (.c (.int .i64 0)))), none⟩ :: [])) k49_15)
def k49_17 : ACode := (.region (⟨(some 51), (.p (.mv (.t 4))), none⟩ :: ⟨(some 52), (.p (.mv (.t 6))), none⟩ :: ⟨(some 53), (.r (.call 65 [(.t 51), (.t 52)])), none⟩ :: ⟨(some 2), (.p (.mv (.t 53))), none⟩ :: ⟨(some 3), (.p (.mv (.c (.int .i64 0)))), none⟩ :: []))
def k49_18 : ACode := (.seq k49_17 .ret)
def k49_19 : ACode := (.seq k49_16 k49_18)
def k49_20 : ACode := (.seq k49_13 k49_19)
def k49_21 : ACode := (.seq k49_12 k49_20)
def k49_22 : ACode := (.seq k49_7 k49_21)
def k49_23 : ACode := (.seq k49_6 k49_22)
def cd49 : ACode := (.seq (.region (⟨(some 1), (.a (.bx (.t 0))), none⟩ :: ⟨(some 2), (.p (.mv (.c (.int .i64 0)))), none⟩ :: ⟨(some 3), (.p (.mv (.c (.int .i64 0)))), none⟩ :: [])) k49_23)
def rs49 : List ARes := [(.tmp 2), (.tmp 3)]
def af49 : AFn := ⟨cd49, rs49, 54⟩
theorem c49 : compF Try.prog 49 = some af49 := by kernel_rfl
noncomputable def g_order_Worth (p_o : OrderT) : Option (Int × Int) := (Option.bind (g_order_Right p_o) fun v1 => (bif (!v1) then (some (0, 1)) else (bif (p_o.Phase == 3) then (some (0, 0)) else (Option.bind (g_num_Mul (IntKind.wrap .i64 (p_o.Qty - p_o.Filled)) p_o.Price) fun v2 => (bif ((v2.2 != 0) || (decide (p_o.NewQty ≤ p_o.Filled))) then (some (v2.1, v2.2)) else (Option.bind (g_num_Mul (IntKind.wrap .i64 (p_o.NewQty - p_o.Filled)) p_o.NewPrice) fun v6 => (bif (v6.2 != 0) then (some (0, v6.2)) else (Option.bind (g_num_Max v2.1 v6.1) fun v7 => (some (v7, 0))))))))))
noncomputable def sp49 : List DV → Option DV := specT (fun (a : OrderT) => [.agg (e_OrderT a)]) (fun (r : (Int × Int)) => .tup [.int .i64 r.1, .int .i64 r.2]) (fun (a : OrderT) => g_order_Worth a)
theorem inj49 : ∀ (a b : OrderT), List.map z1 ((fun (a : OrderT) => [.agg (e_OrderT a)]) a) = List.map z1 ((fun (a : OrderT) => [.agg (e_OrderT a)]) b) → a = b := by
 intro a0 b0 h
 simp only [List.map_cons, List.map_nil, List.cons.injEq, and_true] at h
 exact (e_OrderT_inj (DV.agg.inj h))
set_option maxHeartbeats 1000000 in
theorem w49 {C : FuncId → Con} (hC : ConOk Try.prog C) {q41 : List DV → Option DV} (hc41 : C 41 = .val q41) (hs41 : ∀ (x0 : OrderT) (ds : List DV), List.map z1 ds = List.map z1 [.agg (e_OrderT x0)] → q41 ds = (g_order_Right x0).map fun r => .bool r) {q73 : List DV → Option DV} (hc73 : C 73 = .val q73) (hs73 : ∀ (x0 : Int) (x1 : Int) (ds : List DV), List.map z1 ds = List.map z1 [.int .i64 x0, .int .i64 x1] → q73 ds = (g_num_Mul x0 x1).map fun r => .tup [.int .i64 r.1, .int .i64 r.2]) {q65 : List DV → Option DV} (hc65 : C 65 = .val q65) (hs65 : ∀ (x0 : Int) (x1 : Int) (ds : List DV), List.map z1 ds = List.map z1 [.int .i64 x0, .int .i64 x1] → q65 ds = (g_num_Max x0 x1).map fun r => .int .i64 r) : ValOk Try.prog 49 sp49 := by
 refine valT_of hC c49 _ _ _ inj49 ?_
 intro p_o
 show Imq (g_order_Worth p_o) (fun _ => True) fun r => WP Try.prog C (fun _ => False) cd49 (retQ fun s => outV s rs49 = some (.tup [.int .i64 r.1, .int .i64 r.2])) ⟨⟨54, [(0, (.val (.agg [(.int .i64 p_o.Id), (.int .i64 p_o.Account), (.int .i64 p_o.Symbol), (.int .i64 p_o.Side), (.int .i64 p_o.Qty), (.int .i64 p_o.Price), (.int .i64 p_o.Filled), (.int .i64 p_o.Phase), (.int .i64 p_o.NewQty), (.int .i64 p_o.NewPrice), (.int .i64 p_o.Version), (.bool p_o.Asked)])))]⟩, mkH []⟩
 unfold g_order_Worth
 refine G_seq ?_
 refine G_region ?_
 refine G_op [1001] (v := (.box [1001] 0)) (E_a (u := (.box [1001] 0)) (b := (.box (lOrderT p_o))) (h' := [([1001], (.box (lOrderT p_o)))]) (by kernel_rfl) (by kernel_rfl) (by kernel_rfl)) rfl rfl ?_
 refine G_op [0] (v := (ii 0)) (E_p (by kernel_rfl)) rfl rfl ?_
 refine G_op [0] (v := (ii 0)) (E_p (by kernel_rfl)) rfl rfl ?_
 refine G_nil ?_
 refine G_then ?_
 refine G_seq ?_
 refine G_block ?_
 refine G_seq ?_
 refine G_region ?_
 refine G_op [0] (v := (.agg (lOrderT p_o))) (E_load (by kernel_rfl)) rfl rfl ?_
 refine q_bind fun v1 hv1 => ?_
 refine G_op [0] (v := (bb v1)) (E_call (ds := [.agg (e_OrderT p_o)]) (r := .bool v1) hc41 (by kernel_rfl) ((hs41 p_o _ (by kernel_rfl)).trans (congrArg _ hv1))) rfl rfl ?_
 refine G_op [0] (v := (bb ((!v1)))) (E_p (by kernel_rfl)) rfl rfl ?_
 refine G_op [0] (v := (bb ((!v1)))) (E_p (by kernel_rfl)) rfl rfl ?_
 refine G_nil ?_
 refine G_then ?_
 refine G_cond (t := (!v1)) (by kernel_rfl) (fun _ => ?_) (fun _ => ?_)
 ·refine G_seq ?_
  refine G_region ?_
  refine G_op [0] (v := (ii 0)) (E_p (by kernel_rfl)) rfl rfl ?_
  refine G_op [0] (v := (ii 1)) (E_p (by kernel_rfl)) rfl rfl ?_
  refine G_nil ?_
  refine G_then ?_
  refine G_ret ?_
  refine G_inBR ?_
  refine G_thenR ?_
  refine G_retR ?_
  refine q_some fun hA => ?_
  show outV _ _ = some _
  kernel_rfl
 ·refine G_seq ?_
  refine G_region ?_
  refine G_op [0] (v := (.box [1001] 7)) (E_p (by kernel_rfl)) rfl rfl ?_
  refine G_op [0] (v := (ii p_o.Phase)) (E_load (by kernel_rfl)) rfl rfl ?_
  refine G_op [0] (v := (bb ((p_o.Phase == 3)))) (E_p (by kernel_rfl)) rfl rfl ?_
  refine G_op [0] (v := (bb ((p_o.Phase == 3)))) (E_p (by kernel_rfl)) rfl rfl ?_
  refine G_nil ?_
  refine G_then ?_
  refine G_cond (t := (p_o.Phase == 3)) (by kernel_rfl) (fun _ => ?_) (fun _ => ?_)
  ·refine G_seq ?_
   refine G_region ?_
   refine G_op [0] (v := (ii 0)) (E_p (by kernel_rfl)) rfl rfl ?_
   refine G_op [0] (v := (ii 0)) (E_p (by kernel_rfl)) rfl rfl ?_
   refine G_nil ?_
   refine G_then ?_
   refine G_subW (s0 := ⟨⟨54, [(3, (ii 0)), (2, (ii 0)), (1, (.box [1001] 0))]⟩, mkH [([1001], (.box (lOrderT p_o)))]⟩) (by exact Sub_env ⟨.refl _, .refl _, .refl _, trivial⟩) ?_
   refine G_ret ?_
   refine G_inBR ?_
   refine G_thenR ?_
   refine G_retR ?_
   refine q_some fun hA => ?_
   show outV _ _ = some _
   kernel_rfl
  ·refine G_skip ?_
   refine G_inB ?_
   refine G_then ?_
   refine G_subW (s0 := ⟨⟨54, [(3, (ii 0)), (2, (ii 0)), (1, (.box [1001] 0))]⟩, mkH [([1001], (.box (lOrderT p_o)))]⟩) (by exact Sub_env ⟨.refl _, .refl _, .refl _, trivial⟩) ?_
   refine G_seq ?_
   refine G_region ?_
   refine G_op [0] (v := (.box [1001] 4)) (E_p (by kernel_rfl)) rfl rfl ?_
   refine G_op [0] (v := (ii p_o.Qty)) (E_load (by kernel_rfl)) rfl rfl ?_
   refine G_op [0] (v := (.box [1001] 6)) (E_p (by kernel_rfl)) rfl rfl ?_
   refine G_op [0] (v := (ii p_o.Filled)) (E_load (by kernel_rfl)) rfl rfl ?_
   refine G_op [0] (v := (ii ((IntKind.wrap .i64 (p_o.Qty - p_o.Filled))))) (E_p (by kernel_rfl)) rfl rfl ?_
   refine G_op [0] (v := (.box [1001] 5)) (E_p (by kernel_rfl)) rfl rfl ?_
   refine G_op [0] (v := (ii p_o.Price)) (E_load (by kernel_rfl)) rfl rfl ?_
   refine q_bind fun v2 hv2 => ?_
   refine G_op [0] (v := (.val (.tup [(.int .i64 v2.1), (.int .i64 v2.2)]))) (E_call (ds := [.int .i64 (IntKind.wrap .i64 (p_o.Qty - p_o.Filled)), .int .i64 p_o.Price]) (r := .tup [.int .i64 v2.1, .int .i64 v2.2]) hc73 (by kernel_rfl) ((hs73 (IntKind.wrap .i64 (p_o.Qty - p_o.Filled)) p_o.Price _ (by kernel_rfl)).trans (congrArg _ hv2))) rfl rfl ?_
   refine G_op [0] (v := (.val (.tup [(.int .i64 v2.1), (.int .i64 v2.2)]))) (E_p (by kernel_rfl)) rfl rfl ?_
   refine G_op [0] (v := (ii v2.1)) (E_p (by kernel_rfl)) rfl rfl ?_
   refine G_op [0] (v := (ii v2.2)) (E_p (by kernel_rfl)) rfl rfl ?_
   refine G_op [0] (v := (ii v2.1)) (E_p (by kernel_rfl)) rfl rfl ?_
   refine G_op [0] (v := (ii v2.2)) (E_p (by kernel_rfl)) rfl rfl ?_
   refine G_nil ?_
   refine G_then ?_
   refine G_subW (s0 := ⟨⟨54, [(5, (ii v2.2)), (4, (ii v2.1)), (3, (ii 0)), (2, (ii 0)), (1, (.box [1001] 0))]⟩, mkH [([1001], (.box (lOrderT p_o)))]⟩) (by exact Sub_env ⟨.refl _, .refl _, .refl _, .refl _, .refl _, trivial⟩) ?_
   refine G_seq ?_
   refine G_seq ?_
   refine G_region ?_
   refine G_op [0] (v := (ii v2.2)) (E_p (by kernel_rfl)) rfl rfl ?_
   refine G_op [0] (v := (bb ((v2.2 != 0)))) (E_p (by kernel_rfl)) rfl rfl ?_
   refine G_op [0] (v := (bb ((v2.2 != 0)))) (E_p (by kernel_rfl)) rfl rfl ?_
   refine G_pure (l := []) (st := ⟨⟨54, [(34, (bb (((v2.2 != 0) || (decide (p_o.NewQty ≤ p_o.Filled)))))), (5, (ii v2.2)), (4, (ii v2.1)), (3, (ii 0)), (2, (ii 0)), (1, (.box [1001] 0))]⟩, mkH [([1001], (.box (lOrderT p_o)))]⟩) ?_ (fun r5 => ?_)
   ·refine G_nil ?_
    refine G_then ?_
    refine G_cond (t := ((v2.2 != 0) || (decide (p_o.NewQty ≤ p_o.Filled)))) (by kernel_rfl) (fun _ => ?_) (fun _ => ?_)
    ·refine G_seq ?_
     refine G_region ?_
     refine G_op [0] (v := (ii v2.1)) (E_p (by kernel_rfl)) rfl rfl ?_
     refine G_op [0] (v := (ii v2.2)) (E_p (by kernel_rfl)) rfl rfl ?_
     refine G_op [0] (v := (ii v2.1)) (E_p (by kernel_rfl)) rfl rfl ?_
     refine G_op [0] (v := (ii v2.2)) (E_p (by kernel_rfl)) rfl rfl ?_
     refine G_nil ?_
     refine G_then ?_
     refine G_ret ?_
     refine G_thenR ?_
     refine G_retR ?_
     refine q_some fun hA => ?_
     show outV _ _ = some _
     kernel_rfl
    ·refine G_skip ?_
     refine G_then ?_
     refine G_seq ?_
     refine G_region ?_
     refine G_op [0] (v := (.box [1001] 8)) (E_p (by kernel_rfl)) rfl rfl ?_
     refine G_op [0] (v := (ii p_o.NewQty)) (E_load (by kernel_rfl)) rfl rfl ?_
     refine G_op [0] (v := (.box [1001] 6)) (E_p (by kernel_rfl)) rfl rfl ?_
     refine G_op [0] (v := (ii p_o.Filled)) (E_load (by kernel_rfl)) rfl rfl ?_
     refine G_op [0] (v := (ii ((IntKind.wrap .i64 (p_o.NewQty - p_o.Filled))))) (E_p (by kernel_rfl)) rfl rfl ?_
     refine G_op [0] (v := (.box [1001] 9)) (E_p (by kernel_rfl)) rfl rfl ?_
     refine G_op [0] (v := (ii p_o.NewPrice)) (E_load (by kernel_rfl)) rfl rfl ?_
     refine q_bind fun v6 hv6 => ?_
     refine G_op [0] (v := (.val (.tup [(.int .i64 v6.1), (.int .i64 v6.2)]))) (E_call (ds := [.int .i64 (IntKind.wrap .i64 (p_o.NewQty - p_o.Filled)), .int .i64 p_o.NewPrice]) (r := .tup [.int .i64 v6.1, .int .i64 v6.2]) hc73 (by kernel_rfl) ((hs73 (IntKind.wrap .i64 (p_o.NewQty - p_o.Filled)) p_o.NewPrice _ (by kernel_rfl)).trans (congrArg _ hv6))) rfl rfl ?_
     refine G_op [0] (v := (.val (.tup [(.int .i64 v6.1), (.int .i64 v6.2)]))) (E_p (by kernel_rfl)) rfl rfl ?_
     refine G_op [0] (v := (ii v6.1)) (E_p (by kernel_rfl)) rfl rfl ?_
     refine G_op [0] (v := (ii v6.2)) (E_p (by kernel_rfl)) rfl rfl ?_
     refine G_op [0] (v := (ii v6.1)) (E_p (by kernel_rfl)) rfl rfl ?_
     refine G_op [0] (v := (ii v6.2)) (E_p (by kernel_rfl)) rfl rfl ?_
     refine G_nil ?_
     refine G_then ?_
     refine G_subW (s0 := ⟨⟨54, [(5, (ii v6.2)), (6, (ii v6.1)), (4, (ii v2.1)), (3, (ii 0)), (2, (ii 0))]⟩, mkH []⟩) (by exact Sub_keep ⟨.refl _, .refl _, .refl _, .refl _, .refl _, trivial⟩ trivial (by kernel_rfl) (by kernel_rfl)) ?_
     refine G_seq ?_
     refine G_seq ?_
     refine G_region ?_
     refine G_op [0] (v := (ii v6.2)) (E_p (by kernel_rfl)) rfl rfl ?_
     refine G_op [0] (v := (bb ((v6.2 != 0)))) (E_p (by kernel_rfl)) rfl rfl ?_
     refine G_nil ?_
     refine G_then ?_
     refine G_cond (t := (v6.2 != 0)) (by kernel_rfl) (fun _ => ?_) (fun _ => ?_)
     ·refine G_seq ?_
      refine G_region ?_
      refine G_op [0] (v := (ii v6.2)) (E_p (by kernel_rfl)) rfl rfl ?_
      refine G_op [0] (v := (ii 0)) (E_p (by kernel_rfl)) rfl rfl ?_
      refine G_op [0] (v := (ii v6.2)) (E_p (by kernel_rfl)) rfl rfl ?_
      refine G_nil ?_
      refine G_then ?_
      refine G_ret ?_
      refine G_thenR ?_
      refine G_retR ?_
      refine q_some fun hA => ?_
      show outV _ _ = some _
      kernel_rfl
     ·refine G_skip ?_
      refine G_then ?_
      refine G_seq ?_
      refine G_region ?_
      refine G_op [0] (v := (ii v2.1)) (E_p (by kernel_rfl)) rfl rfl ?_
      refine G_op [0] (v := (ii v6.1)) (E_p (by kernel_rfl)) rfl rfl ?_
      refine q_bind fun v7 hv7 => ?_
      refine G_op [0] (v := (ii v7)) (E_call (ds := [.int .i64 v2.1, .int .i64 v6.1]) (r := .int .i64 v7) hc65 (by kernel_rfl) ((hs65 v2.1 v6.1 _ (by kernel_rfl)).trans (congrArg _ hv7))) rfl rfl ?_
      refine G_op [0] (v := (ii v7)) (E_p (by kernel_rfl)) rfl rfl ?_
      refine G_op [0] (v := (ii 0)) (E_p (by kernel_rfl)) rfl rfl ?_
      refine G_nil ?_
      refine G_then ?_
      refine G_ret ?_
      refine G_retR ?_
      refine q_some fun hA => ?_
      show outV _ _ = some _
      kernel_rfl
   ·refine q_two (v2.2 != 0) (fun h3 => ?_) (fun h3 => ?_)
    ·refine G_subR (Sub_lit (t := 28) (v := true) rfl h3) ?_
     refine G_off rfl rfl ?_
     refine G_off rfl rfl ?_
     refine G_off rfl rfl ?_
     refine G_off rfl rfl ?_
     refine G_off rfl rfl ?_
     refine G_op [0] (v := (bb true)) (E_p (by kernel_rfl)) rfl rfl ?_
     exact q_some fun h => RP_sub (by exact Sub_env ⟨(Wk_or1 h3), .refl _, .refl _, .refl _, .refl _, .refl _, trivial⟩) h
    ·refine G_subR (Sub_lit (t := 28) (v := false) rfl h3) ?_
     refine G_op [0] (v := (.box [1001] 8)) (E_p (by kernel_rfl)) rfl rfl ?_
     refine G_op [0] (v := (ii p_o.NewQty)) (E_load (by kernel_rfl)) rfl rfl ?_
     refine G_op [0] (v := (.box [1001] 6)) (E_p (by kernel_rfl)) rfl rfl ?_
     refine G_op [0] (v := (ii p_o.Filled)) (E_load (by kernel_rfl)) rfl rfl ?_
     refine G_op [0] (v := (bb ((decide (p_o.NewQty ≤ p_o.Filled))))) (E_p (by kernel_rfl)) rfl rfl ?_
     refine G_op [0] (v := (bb ((decide (p_o.NewQty ≤ p_o.Filled))))) (E_p (by kernel_rfl)) rfl rfl ?_
     exact q_some fun h => RP_sub (by exact Sub_env ⟨(Wk_or0 h3), .refl _, .refl _, .refl _, .refl _, .refl _, trivial⟩) h
theorem s49 (x0 : OrderT) (ds : List DV) (hd : List.map z1 ds = List.map z1 [.agg (e_OrderT x0)]) : sp49 ds = (g_order_Worth x0).map fun r => .tup [.int .i64 r.1, .int .i64 r.2] :=
 specT_at (ea := fun (a : OrderT) => [.agg (e_OrderT a)]) (eb := fun (r : (Int × Int)) => .tup [.int .i64 r.1, .int .i64 r.2]) (g := fun (a : OrderT) => g_order_Worth a) inj49 x0 hd

def k47_0 : ACode := (.region (⟨(some 5), (.r (.load 12 true (.t 1))), none⟩ :: ⟨(some 6), (.r (.call 41 [(.t 5)])), none⟩ :: ⟨(some 7), (.p (.un .not (.t 6))), none⟩ :: ⟨(some 4), (.p (.mv (.t 7))), none⟩ :: []))
def k47_1 : ACode := (.seq (.region (⟨(some 8), (.r (.load 12 true (.t 1))), none⟩ :: ⟨none, (.w (.store 12 (.t 2) (.t 8))), none⟩ :: ⟨(some 3), (.p (.mv (.c (.int .i64 1)))), none⟩ :: [])) .ret)
def k47_2 : ACode := (.region (⟨(some 10), (.p (.foff 7 (.t 1))), none⟩ :: ⟨(some 11), (.r (.load 1 false (.t 10))), none⟩ :: ⟨(some 12), (.p (.bin .eql (.t 11) (.c (.int .i64 3)))), none⟩ :: ⟨(some 9), (.p (.mv (.t 12))), none⟩ :: []))
def k47_3 : ACode := (.cond (.t 9) .skip (.region (⟨(some 13), (.p (.foff 11 (.t 1))), none⟩ :: ⟨(some 14), (.r (.load 1 false (.t 13))), none⟩ :: ⟨(some 9), (.p (.mv (.t 14))), none⟩ :: [])))
def k47_4 : ACode := (.seq k47_2 k47_3)
def k47_5 : ACode := (.seq (.region (⟨(some 15), (.r (.load 12 true (.t 1))), none⟩ :: ⟨none, (.w (.store 12 (.t 2) (.t 15))), none⟩ :: ⟨(some 3), (.p (.mv (.c (.int .i64 8)))), none⟩ :: [])) .ret)
def k47_6 : ACode := (.cond (.t 9) k47_5 .skip)
def k47_7 : ACode := (.seq k47_4 k47_6)
def k47_8 : ACode := (.cond (.t 4) k47_1 k47_7)
def k47_9 : ACode := (.seq k47_0 k47_8)
def k47_10 : ACode := (.block 0 k47_9)
def k47_11 : ACode := (.seq (.region (⟨(some 17), (.r (.load 12 true (.t 1))), none⟩ :: ⟨none, (.w (.store 12 (.t 2) (.t 17))), none⟩ :: ⟨(some 3), (.p (.mv (.c (.int .i64 0)))), none⟩ :: [])) .ret)
def k47_12 : ACode := (.seq (.region (⟨(some 16), (.p (.foff 11 (.t 1))), none⟩ :: ⟨none, (.w (.store 1 (.t 16) (.c (.bool true)))), none⟩ :: [])) k47_11)
def k47_13 : ACode := (.seq k47_10 k47_12)
def cd47 : ACode := (.seq (.region (⟨(some 1), (.a (.bx (.t 0))), none⟩ :: ⟨(some 2), (.a (.alloc [(.int .i64 0), (.int .i64 0), (.int .i64 0), (.int .i64 0), (.int .i64 0), (.int .i64 0), (.int .i64 0), (.int .i64 0), (.int .i64 0), (.int .i64 0), (.int .i64 0), (.bool false)])), none⟩ :: ⟨(some 3), (.p (.mv (.c (.int .i64 0)))), none⟩ :: [])) k47_13)
def rs47 : List ARes := [(.cell 2 12 true), (.tmp 3)]
def af47 : AFn := ⟨cd47, rs47, 18⟩
theorem c47 : compF Try.prog 47 = some af47 := by kernel_rfl
noncomputable def g_order_End (p_o : OrderT) : Option (OrderT × Int) := (Option.bind (g_order_Right p_o) fun v1 => (bif (!v1) then (some (p_o, 1)) else (Option.bind ((bif (p_o.Phase == 3) then (some (p_o.Phase == 3)) else (some p_o.Asked)) : Option (Bool)) (fun (j2 : Bool) => (bif j2 then (some (p_o, 8)) else (some ((OrderT.mk p_o.Id p_o.Account p_o.Symbol p_o.Side p_o.Qty p_o.Price p_o.Filled p_o.Phase p_o.NewQty p_o.NewPrice p_o.Version true), 0)))))))
noncomputable def sp47 : List DV → Option DV := specT (fun (a : OrderT) => [.agg (e_OrderT a)]) (fun (r : (OrderT × Int)) => .tup [.agg (e_OrderT r.1), .int .i64 r.2]) (fun (a : OrderT) => g_order_End a)
theorem inj47 : ∀ (a b : OrderT), List.map z1 ((fun (a : OrderT) => [.agg (e_OrderT a)]) a) = List.map z1 ((fun (a : OrderT) => [.agg (e_OrderT a)]) b) → a = b := by
 intro a0 b0 h
 simp only [List.map_cons, List.map_nil, List.cons.injEq, and_true] at h
 exact (e_OrderT_inj (DV.agg.inj h))
set_option maxHeartbeats 1000000 in
theorem w47 {C : FuncId → Con} (hC : ConOk Try.prog C) {q41 : List DV → Option DV} (hc41 : C 41 = .val q41) (hs41 : ∀ (x0 : OrderT) (ds : List DV), List.map z1 ds = List.map z1 [.agg (e_OrderT x0)] → q41 ds = (g_order_Right x0).map fun r => .bool r) : ValOk Try.prog 47 sp47 := by
 refine valT_of hC c47 _ _ _ inj47 ?_
 intro p_o
 show Imq (g_order_End p_o) (fun _ => True) fun r => WP Try.prog C (fun _ => False) cd47 (retQ fun s => outV s rs47 = some (.tup [.agg (e_OrderT r.1), .int .i64 r.2])) ⟨⟨18, [(0, (.val (.agg [(.int .i64 p_o.Id), (.int .i64 p_o.Account), (.int .i64 p_o.Symbol), (.int .i64 p_o.Side), (.int .i64 p_o.Qty), (.int .i64 p_o.Price), (.int .i64 p_o.Filled), (.int .i64 p_o.Phase), (.int .i64 p_o.NewQty), (.int .i64 p_o.NewPrice), (.int .i64 p_o.Version), (.bool p_o.Asked)])))]⟩, mkH []⟩
 unfold g_order_End
 refine G_seq ?_
 refine G_region ?_
 refine G_op [1001] (v := (.box [1001] 0)) (E_a (u := (.box [1001] 0)) (b := (.box (lOrderT p_o))) (h' := [([1001], (.box (lOrderT p_o)))]) (by kernel_rfl) (by kernel_rfl) (by kernel_rfl)) rfl rfl ?_
 refine G_op [1002] (v := (.box [1002] 0)) (E_a (u := (.box [1002] 0)) (b := (.box zOrderT)) (h' := [([1001], (.box (lOrderT p_o))), ([1002], (.box zOrderT))]) (by kernel_rfl) (by kernel_rfl) (by kernel_rfl)) rfl rfl ?_
 refine G_op [0] (v := (ii 0)) (E_p (by kernel_rfl)) rfl rfl ?_
 refine G_nil ?_
 refine G_then ?_
 refine G_seq ?_
 refine G_block ?_
 refine G_seq ?_
 refine G_region ?_
 refine G_op [0] (v := (.agg (lOrderT p_o))) (E_load (by kernel_rfl)) rfl rfl ?_
 refine q_bind fun v1 hv1 => ?_
 refine G_op [0] (v := (bb v1)) (E_call (ds := [.agg (e_OrderT p_o)]) (r := .bool v1) hc41 (by kernel_rfl) ((hs41 p_o _ (by kernel_rfl)).trans (congrArg _ hv1))) rfl rfl ?_
 refine G_op [0] (v := (bb ((!v1)))) (E_p (by kernel_rfl)) rfl rfl ?_
 refine G_op [0] (v := (bb ((!v1)))) (E_p (by kernel_rfl)) rfl rfl ?_
 refine G_nil ?_
 refine G_then ?_
 refine G_cond (t := (!v1)) (by kernel_rfl) (fun _ => ?_) (fun _ => ?_)
 ·refine G_seq ?_
  refine G_region ?_
  refine G_op [0] (v := (.agg (lOrderT p_o))) (E_load (by kernel_rfl)) rfl rfl ?_
  refine G_op0 [0] (v := (.val (.tup []))) (E_store (b := [1002]) (o := 0) (cs := (lOrderT p_o)) (cells := zOrderT) (cells' := (lOrderT p_o)) (h' := [([1001], (.box (lOrderT p_o))), ([1002], (.box (lOrderT p_o)))]) (by kernel_rfl) (by kernel_rfl) (by kernel_rfl) rfl (by kernel_rfl) (by kernel_rfl) (by kernel_rfl) (by kernel_rfl)) rfl ?_
  refine G_op [0] (v := (ii 1)) (E_p (by kernel_rfl)) rfl rfl ?_
  refine G_nil ?_
  refine G_then ?_
  refine G_ret ?_
  refine G_inBR ?_
  refine G_thenR ?_
  refine G_retR ?_
  refine q_some fun hA => ?_
  show outV _ _ = some _
  kernel_rfl
 ·refine G_seq ?_
  refine G_seq ?_
  refine G_region ?_
  refine G_op [0] (v := (.box [1001] 7)) (E_p (by kernel_rfl)) rfl rfl ?_
  refine G_op [0] (v := (ii p_o.Phase)) (E_load (by kernel_rfl)) rfl rfl ?_
  refine G_op [0] (v := (bb ((p_o.Phase == 3)))) (E_p (by kernel_rfl)) rfl rfl ?_
  refine G_op [0] (v := (bb ((p_o.Phase == 3)))) (E_p (by kernel_rfl)) rfl rfl ?_
  refine G_nil ?_
  refine G_then ?_
  refine G_join (st := fun j2 => ⟨⟨18, [(9, (bb j2)), (3, (ii 0)), (2, (.box [1002] 0)), (1, (.box [1001] 0))]⟩, mkH [([1001], (.box (lOrderT p_o))), ([1002], (.box zOrderT))]⟩) (fun j2 => ?_) (fun r3 hr3 => ?_)
  ·refine G_then ?_
   refine G_cond (t := j2) (by kernel_rfl) (fun _ => ?_) (fun _ => ?_)
   ·refine G_seq ?_
    refine G_region ?_
    refine G_op [0] (v := (.agg (lOrderT p_o))) (E_load (by kernel_rfl)) rfl rfl ?_
    refine G_op0 [0] (v := (.val (.tup []))) (E_store (b := [1002]) (o := 0) (cs := (lOrderT p_o)) (cells := zOrderT) (cells' := (lOrderT p_o)) (h' := [([1001], (.box (lOrderT p_o))), ([1002], (.box (lOrderT p_o)))]) (by kernel_rfl) (by kernel_rfl) (by kernel_rfl) rfl (by kernel_rfl) (by kernel_rfl) (by kernel_rfl) (by kernel_rfl)) rfl ?_
    refine G_op [0] (v := (ii 8)) (E_p (by kernel_rfl)) rfl rfl ?_
    refine G_nil ?_
    refine G_then ?_
    refine G_ret ?_
    refine G_inBR ?_
    refine G_thenR ?_
    refine G_retR ?_
    refine q_some fun hA => ?_
    show outV _ _ = some _
    kernel_rfl
   ·refine G_skip ?_
    refine G_inB ?_
    refine G_then ?_
    refine G_seq ?_
    refine G_region ?_
    refine G_op [0] (v := (.box [1001] 11)) (E_p (by kernel_rfl)) rfl rfl ?_
    refine G_op0 [0] (v := (.val (.tup []))) (E_store (b := [1001]) (o := 11) (cs := [(bb true)]) (cells := (lOrderT p_o)) (cells' := [(ii p_o.Id), (ii p_o.Account), (ii p_o.Symbol), (ii p_o.Side), (ii p_o.Qty), (ii p_o.Price), (ii p_o.Filled), (ii p_o.Phase), (ii p_o.NewQty), (ii p_o.NewPrice), (ii p_o.Version), (bb true)]) (h' := [([1001], (.box [(ii p_o.Id), (ii p_o.Account), (ii p_o.Symbol), (ii p_o.Side), (ii p_o.Qty), (ii p_o.Price), (ii p_o.Filled), (ii p_o.Phase), (ii p_o.NewQty), (ii p_o.NewPrice), (ii p_o.Version), (bb true)])), ([1002], (.box zOrderT))]) (by kernel_rfl) (by kernel_rfl) (by kernel_rfl) rfl (by kernel_rfl) (by kernel_rfl) (by kernel_rfl) (by kernel_rfl)) rfl ?_
    refine G_nil ?_
    refine G_then ?_
    refine G_seq ?_
    refine G_region ?_
    refine G_op [0] (v := (.agg [(ii p_o.Id), (ii p_o.Account), (ii p_o.Symbol), (ii p_o.Side), (ii p_o.Qty), (ii p_o.Price), (ii p_o.Filled), (ii p_o.Phase), (ii p_o.NewQty), (ii p_o.NewPrice), (ii p_o.Version), (bb true)])) (E_load (by kernel_rfl)) rfl rfl ?_
    refine G_op0 [0] (v := (.val (.tup []))) (E_store (b := [1002]) (o := 0) (cs := [(ii p_o.Id), (ii p_o.Account), (ii p_o.Symbol), (ii p_o.Side), (ii p_o.Qty), (ii p_o.Price), (ii p_o.Filled), (ii p_o.Phase), (ii p_o.NewQty), (ii p_o.NewPrice), (ii p_o.Version), (bb true)]) (cells := zOrderT) (cells' := [(ii p_o.Id), (ii p_o.Account), (ii p_o.Symbol), (ii p_o.Side), (ii p_o.Qty), (ii p_o.Price), (ii p_o.Filled), (ii p_o.Phase), (ii p_o.NewQty), (ii p_o.NewPrice), (ii p_o.Version), (bb true)]) (h' := [([1001], (.box [(ii p_o.Id), (ii p_o.Account), (ii p_o.Symbol), (ii p_o.Side), (ii p_o.Qty), (ii p_o.Price), (ii p_o.Filled), (ii p_o.Phase), (ii p_o.NewQty), (ii p_o.NewPrice), (ii p_o.Version), (bb true)])), ([1002], (.box [(ii p_o.Id), (ii p_o.Account), (ii p_o.Symbol), (ii p_o.Side), (ii p_o.Qty), (ii p_o.Price), (ii p_o.Filled), (ii p_o.Phase), (ii p_o.NewQty), (ii p_o.NewPrice), (ii p_o.Version), (bb true)]))]) (by kernel_rfl) (by kernel_rfl) (by kernel_rfl) rfl (by kernel_rfl) (by kernel_rfl) (by kernel_rfl) (by kernel_rfl)) rfl ?_
    refine G_op [0] (v := (ii 0)) (E_p (by kernel_rfl)) rfl rfl ?_
    refine G_nil ?_
    refine G_then ?_
    refine G_ret ?_
    refine G_retR ?_
    refine q_some fun hA => ?_
    show outV _ _ = some _
    kernel_rfl
  ·refine G_cond (t := (p_o.Phase == 3)) (by kernel_rfl) (fun _ => ?_) (fun _ => ?_)
   ·refine G_skip ?_
    exact q_some fun h => (QN_then : QN _ _) _ _ (by exact Sub_env ⟨.refl _, .refl _, .refl _, .refl _, trivial⟩) h
   ·refine G_region ?_
    refine G_op [0] (v := (.box [1001] 11)) (E_p (by kernel_rfl)) rfl rfl ?_
    refine G_op [0] (v := (bb p_o.Asked)) (E_load (by kernel_rfl)) rfl rfl ?_
    refine G_op [0] (v := (bb p_o.Asked)) (E_p (by kernel_rfl)) rfl rfl ?_
    refine G_nil ?_
    exact q_some fun h => (QN_then : QN _ _) _ _ (by exact Sub_env ⟨.refl _, .refl _, .refl _, .refl _, trivial⟩) h
theorem s47 (x0 : OrderT) (ds : List DV) (hd : List.map z1 ds = List.map z1 [.agg (e_OrderT x0)]) : sp47 ds = (g_order_End x0).map fun r => .tup [.agg (e_OrderT r.1), .int .i64 r.2] :=
 specT_at (ea := fun (a : OrderT) => [.agg (e_OrderT a)]) (eb := fun (r : (OrderT × Int)) => .tup [.agg (e_OrderT r.1), .int .i64 r.2]) (g := fun (a : OrderT) => g_order_End a) inj47 x0 hd

def k37_0 : ACode := (.region (⟨(some 3), (.r (.load 12 true (.t 1))), none⟩ :: ⟨(some 4), (.r (.call 41 [(.t 3)])), none⟩ :: ⟨(some 5), (.p (.un .not (.t 4))), none⟩ :: ⟨(some 6), (.p (.mv (.t 5))), none⟩ :: ⟨(some 7), (.p (.foff 7 (.t 1))), (some (6, false))⟩ :: ⟨(some 8), (.r (.load 1 false (.t 7))), (some (6, false))⟩ :: ⟨(some 9), (.p (.bin .eql (.t 8) (.c (.int .i64 3)))), (some (6, false))⟩ :: ⟨(some 10), (.p (.pick (.t 6) (.c (.bool true)) (.t 9))), none⟩ :: []))
def k37_1 : ACode := (.seq k37_0 (.cond (.t 10) (.seq (.region (⟨(some 2), (.p (.mv (.c (.int .i64 0)))), none⟩ :: [])) .ret) .skip))
def k37_2 : ACode := (.draw (⟨(some 11), (.p (.foff 4 (.t 1))), none⟩ :: ⟨(some 12), (.r (.load 1 false (.t 11))), none⟩ :: ⟨(some 13), (.p (.foff 8 (.t 1))), none⟩ :: ⟨(some 14), (.r (.load 1 false (.t 13))), none⟩ :: ⟨(some 15), (.r (.call 65 [(.t 12), (.t 14)])), none⟩ :: ⟨(some 16), (.p (.foff 6 (.t 1))), none⟩ :: ⟨(some 17), (.r (.load 1 false (.t 16))), none⟩ :: ⟨(some 18), (.p (.bin .sub (.t 15) (.t 17))), none⟩ :: ⟨(some 2), (.p (.mv (.t 18))), none⟩ :: []))
def k37_3 : ACode := (.seq k37_2 .ret)
def k37_4 : ACode := (.seq k37_1 k37_3)
def cd37 : ACode := (.seq (.region (⟨(some 1), (.a (.bx (.t 0))), none⟩ :: ⟨(some 2), (.p (.mv (.c (.int .i64 0)))), none⟩ :: [])) k37_4)
def rs37 : List ARes := [(.tmp 2)]
def af37 : AFn := ⟨cd37, rs37, 19⟩
theorem c37 : compF Try.prog 37 = some af37 := by kernel_rfl
noncomputable def g_order_Open (p_o : OrderT) : Option Int := (Option.bind (g_order_Right p_o) fun v1 => (bif ((!v1) || (p_o.Phase == 3)) then (some 0) else (Option.bind (g_num_Max p_o.Qty p_o.NewQty) fun v5 => (some (IntKind.wrap .i64 (v5 - p_o.Filled))))))
noncomputable def sp37 : List DV → Option DV := specT (fun (a : OrderT) => [.agg (e_OrderT a)]) (fun (r : Int) => .int .i64 r) (fun (a : OrderT) => g_order_Open a)
theorem inj37 : ∀ (a b : OrderT), List.map z1 ((fun (a : OrderT) => [.agg (e_OrderT a)]) a) = List.map z1 ((fun (a : OrderT) => [.agg (e_OrderT a)]) b) → a = b := by
 intro a0 b0 h
 simp only [List.map_cons, List.map_nil, List.cons.injEq, and_true] at h
 exact (e_OrderT_inj (DV.agg.inj h))
set_option maxHeartbeats 1000000 in
theorem w37 {C : FuncId → Con} (hC : ConOk Try.prog C) {q41 : List DV → Option DV} (hc41 : C 41 = .val q41) (hs41 : ∀ (x0 : OrderT) (ds : List DV), List.map z1 ds = List.map z1 [.agg (e_OrderT x0)] → q41 ds = (g_order_Right x0).map fun r => .bool r) {q65 : List DV → Option DV} (hc65 : C 65 = .val q65) (hs65 : ∀ (x0 : Int) (x1 : Int) (ds : List DV), List.map z1 ds = List.map z1 [.int .i64 x0, .int .i64 x1] → q65 ds = (g_num_Max x0 x1).map fun r => .int .i64 r) : ValOk Try.prog 37 sp37 := by
 refine valT_of hC c37 _ _ _ inj37 ?_
 intro p_o
 show Imq (g_order_Open p_o) (fun _ => True) fun r => WP Try.prog C (fun _ => False) cd37 (retQ fun s => outV s rs37 = some (.int .i64 r)) ⟨⟨19, [(0, (.val (.agg [(.int .i64 p_o.Id), (.int .i64 p_o.Account), (.int .i64 p_o.Symbol), (.int .i64 p_o.Side), (.int .i64 p_o.Qty), (.int .i64 p_o.Price), (.int .i64 p_o.Filled), (.int .i64 p_o.Phase), (.int .i64 p_o.NewQty), (.int .i64 p_o.NewPrice), (.int .i64 p_o.Version), (.bool p_o.Asked)])))]⟩, mkH []⟩
 unfold g_order_Open
 refine G_seq ?_
 refine G_region ?_
 refine G_op [1001] (v := (.box [1001] 0)) (E_a (u := (.box [1001] 0)) (b := (.box (lOrderT p_o))) (h' := [([1001], (.box (lOrderT p_o)))]) (by kernel_rfl) (by kernel_rfl) (by kernel_rfl)) rfl rfl ?_
 refine G_op [0] (v := (ii 0)) (E_p (by kernel_rfl)) rfl rfl ?_
 refine G_nil ?_
 refine G_then ?_
 refine G_seq ?_
 refine G_seq ?_
 refine G_region ?_
 refine G_op [0] (v := (.agg (lOrderT p_o))) (E_load (by kernel_rfl)) rfl rfl ?_
 refine q_bind fun v1 hv1 => ?_
 refine G_op [0] (v := (bb v1)) (E_call (ds := [.agg (e_OrderT p_o)]) (r := .bool v1) hc41 (by kernel_rfl) ((hs41 p_o _ (by kernel_rfl)).trans (congrArg _ hv1))) rfl rfl ?_
 refine G_op [0] (v := (bb ((!v1)))) (E_p (by kernel_rfl)) rfl rfl ?_
 refine G_op [0] (v := (bb ((!v1)))) (E_p (by kernel_rfl)) rfl rfl ?_
 refine G_pure (l := []) (st := ⟨⟨19, [(10, (bb (((!v1) || (p_o.Phase == 3))))), (2, (ii 0)), (1, (.box [1001] 0))]⟩, mkH [([1001], (.box (lOrderT p_o)))]⟩) ?_ (fun r4 => ?_)
 ·refine G_nil ?_
  refine G_then ?_
  refine G_cond (t := ((!v1) || (p_o.Phase == 3))) (by kernel_rfl) (fun _ => ?_) (fun _ => ?_)
  ·refine G_seq ?_
   refine G_region ?_
   refine G_op [0] (v := (ii 0)) (E_p (by kernel_rfl)) rfl rfl ?_
   refine G_nil ?_
   refine G_then ?_
   refine G_ret ?_
   refine G_thenR ?_
   refine G_retR ?_
   refine q_some fun hA => ?_
   show outV _ _ = some _
   kernel_rfl
  ·refine G_skip ?_
   refine G_then ?_
   refine G_seq ?_
   refine G_draw ?_
   refine X_op (w := (.box [1001] 4)) (v := (.box [1001] 4)) (E_p (by kernel_rfl)) rfl rfl rfl ?_
   refine X_op (w := (ii p_o.Qty)) (v := (ii p_o.Qty)) (E_load (by kernel_rfl)) rfl rfl rfl ?_
   refine X_op (w := (.box [1001] 8)) (v := (.box [1001] 8)) (E_p (by kernel_rfl)) rfl rfl rfl ?_
   refine X_op (w := (ii p_o.NewQty)) (v := (ii p_o.NewQty)) (E_load (by kernel_rfl)) rfl rfl rfl ?_
   refine q_bind fun v5 hv5 => ?_
   refine X_op (w := (ii v5)) (v := (ii v5)) (E_callX (ds := [.int .i64 p_o.Qty, .int .i64 p_o.NewQty]) (ids := []) (r := .int .i64 v5) hc65 (by kernel_rfl) ((hs65 p_o.Qty p_o.NewQty _ (by kernel_rfl)).trans (congrArg _ hv5)) (by kernel_rfl)) rfl rfl rfl ?_
   refine X_op (w := (.box [1001] 6)) (v := (.box [1001] 6)) (E_p (by kernel_rfl)) rfl rfl rfl ?_
   refine X_op (w := (ii p_o.Filled)) (v := (ii p_o.Filled)) (E_load (by kernel_rfl)) rfl rfl rfl ?_
   refine X_op (w := (ii ((IntKind.wrap .i64 (v5 - p_o.Filled))))) (v := (ii ((IntKind.wrap .i64 (v5 - p_o.Filled))))) (E_p (by kernel_rfl)) rfl rfl rfl ?_
   refine X_op (w := (ii ((IntKind.wrap .i64 (v5 - p_o.Filled))))) (v := (ii ((IntKind.wrap .i64 (v5 - p_o.Filled))))) (E_p (by kernel_rfl)) rfl rfl rfl ?_
   refine X_nil (m := [(2, (ii ((IntKind.wrap .i64 (v5 - p_o.Filled)))))]) (by exact ⟨rfl, trivial⟩) ?_
   refine G_then ?_
   refine G_ret ?_
   refine G_retR ?_
   refine q_some fun hA => ?_
   show outV _ _ = some _
   kernel_rfl
 ·refine q_two (!v1) (fun h2 => ?_) (fun h2 => ?_)
  ·refine G_subR (Sub_lit (t := 6) (v := true) rfl h2) ?_
   refine G_off rfl rfl ?_
   refine G_off rfl rfl ?_
   refine G_off rfl rfl ?_
   refine G_op [0] (v := (bb true)) (E_p (by kernel_rfl)) rfl rfl ?_
   exact q_some fun h => RP_sub (by exact Sub_env ⟨(Wk_or1 h2), .refl _, .refl _, trivial⟩) h
  ·refine G_subR (Sub_lit (t := 6) (v := false) rfl h2) ?_
   refine G_op [0] (v := (.box [1001] 7)) (E_p (by kernel_rfl)) rfl rfl ?_
   refine G_op [0] (v := (ii p_o.Phase)) (E_load (by kernel_rfl)) rfl rfl ?_
   refine G_op [0] (v := (bb ((p_o.Phase == 3)))) (E_p (by kernel_rfl)) rfl rfl ?_
   refine G_op [0] (v := (bb ((p_o.Phase == 3)))) (E_p (by kernel_rfl)) rfl rfl ?_
   exact q_some fun h => RP_sub (by exact Sub_env ⟨(Wk_or0 h2), .refl _, .refl _, trivial⟩) h
theorem s37 (x0 : OrderT) (ds : List DV) (hd : List.map z1 ds = List.map z1 [.agg (e_OrderT x0)]) : sp37 ds = (g_order_Open x0).map fun r => .int .i64 r :=
 specT_at (ea := fun (a : OrderT) => [.agg (e_OrderT a)]) (eb := fun (r : Int) => .int .i64 r) (g := fun (a : OrderT) => g_order_Open a) inj37 x0 hd

def t38_12 : List AIns := (⟨(some 0), (.p (.mv (.t 109))), none⟩ :: [])
def t38_11 : List AIns := (⟨(some 105), (.p (.mv (.t 104))), none⟩ :: ⟨(some 106), (.p (.foff 7 (.t 1))), (some (105, true))⟩ :: ⟨(some 107), (.r (.load 1 false (.t 106))), (some (105, true))⟩ :: ⟨(some 108), (.p (.bin .eql (.t 107) (.c (.int .i64 1)))), (some (105, true))⟩ :: ⟨(some 109), (.p (.pick (.t 105) (.t 108) (.c (.bool false)))), none⟩ :: t38_12)
def t38_10 : List AIns := (⟨(some 101), (.p (.mv (.t 100))), none⟩ :: ⟨(some 102), (.r (.load 12 true (.t 12))), (some (101, true))⟩ :: ⟨(some 103), (.r (.call 41 [(.t 102)])), (some (101, true))⟩ :: ⟨(some 104), (.p (.pick (.t 101) (.t 103) (.c (.bool false)))), none⟩ :: t38_11)
def t38_9 : List AIns := (⟨(some 96), (.p (.mv (.t 95))), none⟩ :: ⟨(some 97), (.p (.foff 10 (.t 6))), (some (96, true))⟩ :: ⟨(some 98), (.r (.load 1 false (.t 97))), (some (96, true))⟩ :: ⟨(some 99), (.p (.bin .eql (.t 98) (.c (.int .i64 1)))), (some (96, true))⟩ :: ⟨(some 100), (.p (.pick (.t 96) (.t 99) (.c (.bool false)))), none⟩ :: t38_10)
def t38_8 : List AIns := (⟨(some 92), (.p (.mv (.t 91))), none⟩ :: ⟨(some 93), (.p (.foff 11 (.t 12))), (some (92, true))⟩ :: ⟨(some 94), (.r (.load 1 false (.t 93))), (some (92, true))⟩ :: ⟨(some 95), (.p (.pick (.t 92) (.t 94) (.c (.bool false)))), none⟩ :: t38_9)
def t38_7 : List AIns := (⟨(some 88), (.p (.mv (.t 87))), none⟩ :: ⟨(some 89), (.p (.mv (.t 13))), (some (88, true))⟩ :: ⟨(some 90), (.p (.bin .eql (.t 89) (.c (.int .i64 0)))), (some (88, true))⟩ :: ⟨(some 91), (.p (.pick (.t 88) (.t 90) (.c (.bool false)))), none⟩ :: t38_8)
def t38_6 : List AIns := (⟨(some 84), (.p (.mv (.t 83))), none⟩ :: ⟨(some 85), (.p (.mv (.t 11))), (some (84, true))⟩ :: ⟨(some 86), (.p (.bin .eql (.t 85) (.c (.int .i64 8)))), (some (84, true))⟩ :: ⟨(some 87), (.p (.pick (.t 84) (.t 86) (.c (.bool false)))), none⟩ :: t38_7)
def t38_5 : List AIns := (⟨(some 80), (.p (.mv (.t 79))), none⟩ :: ⟨(some 81), (.p (.mv (.t 8))), (some (80, true))⟩ :: ⟨(some 82), (.p (.bin .eql (.t 81) (.c (.int .i64 18)))), (some (80, true))⟩ :: ⟨(some 83), (.p (.pick (.t 80) (.t 82) (.c (.bool false)))), none⟩ :: t38_6)
def t38_4 : List AIns := (⟨(some 75), (.p (.mv (.t 74))), none⟩ :: ⟨(some 76), (.r (.load 12 true (.t 6))), (some (75, true))⟩ :: ⟨(some 77), (.r (.call 37 [(.t 76)])), (some (75, true))⟩ :: ⟨(some 78), (.p (.bin .eql (.t 77) (.c (.int .i64 8)))), (some (75, true))⟩ :: ⟨(some 79), (.p (.pick (.t 75) (.t 78) (.c (.bool false)))), none⟩ :: t38_5)
def t38_3 : List AIns := (⟨(some 70), (.p (.mv (.t 69))), none⟩ :: ⟨(some 71), (.r (.load 12 true (.t 3))), (some (70, true))⟩ :: ⟨(some 72), (.r (.call 37 [(.t 71)])), (some (70, true))⟩ :: ⟨(some 73), (.p (.bin .eql (.t 72) (.c (.int .i64 6)))), (some (70, true))⟩ :: ⟨(some 74), (.p (.pick (.t 70) (.t 73) (.c (.bool false)))), none⟩ :: t38_4)
def t38_2 : List AIns := (⟨(some 66), (.p (.mv (.t 65))), none⟩ :: ⟨(some 67), (.p (.mv (.t 9))), (some (66, true))⟩ :: ⟨(some 68), (.p (.bin .eql (.t 67) (.c (.int .i64 0)))), (some (66, true))⟩ :: ⟨(some 69), (.p (.pick (.t 66) (.t 68) (.c (.bool false)))), none⟩ :: t38_3)
def t38_1 : List AIns := (⟨(some 62), (.p (.mv (.t 61))), none⟩ :: ⟨(some 63), (.p (.mv (.t 7))), (some (62, true))⟩ :: ⟨(some 64), (.p (.bin .eql (.t 63) (.c (.int .i64 0)))), (some (62, true))⟩ :: ⟨(some 65), (.p (.pick (.t 62) (.t 64) (.c (.bool false)))), none⟩ :: t38_2)
def t38_0 : List AIns := (⟨(some 58), (.p (.mv (.t 57))), none⟩ :: ⟨(some 59), (.p (.mv (.t 5))), (some (58, true))⟩ :: ⟨(some 60), (.p (.bin .eql (.t 59) (.c (.int .i64 0)))), (some (58, true))⟩ :: ⟨(some 61), (.p (.pick (.t 58) (.t 60) (.c (.bool false)))), none⟩ :: t38_1)
def k38_0 : ACode := (.region (⟨(some 15), (.p (.build [(.int .i64 0), (.int .i64 0), (.int .i64 0), (.int .i64 0), (.int .i64 0), (.int .i64 0), (.int .i64 0), (.int .i64 0), (.int .i64 0), (.int .i64 0), (.bool false), (.int .i64 0), (.int .i64 0)] [(0, (1, (.c (.int .i64 1)))), (1, (1, (.c (.int .i64 4)))), (4, (1, (.c (.int .i64 1)))), (5, (1, (.c (.int .i64 10)))), (6, (1, (.c (.int .i64 3))))])), none⟩ :: ⟨(some 16), (.r (.call 39 [(.t 15)])), none⟩ :: ⟨(some 14), (.p (.mv (.t 16))), none⟩ :: ⟨(some 17), (.p (.ext (.t 14) 0)), none⟩ :: ⟨(some 18), (.p (.ext (.t 14) 1)), none⟩ :: ⟨(some 1), (.a (.alloc [(.int .i64 0), (.int .i64 0), (.int .i64 0), (.int .i64 0), (.int .i64 0), (.int .i64 0), (.int .i64 0), (.int .i64 0), (.int .i64 0), (.int .i64 0), (.int .i64 0), (.bool false)])), none⟩ :: ⟨none, (.w (.store 12 (.t 1) (.t 17))), none⟩ :: ⟨(some 2), (.p (.mv (.t 18))), none⟩ :: []))
def k38_1 : ACode := (.region (⟨(some 20), (.r (.load 12 true (.t 1))), none⟩ :: ⟨(some 21), (.p (.build [(.int .i64 0), (.int .i64 0), (.int .i64 0), (.int .i64 0), (.int .i64 0)] [(0, (1, (.c (.int .i64 1)))), (1, (1, (.c (.int .i64 1)))), (2, (1, (.c (.int .i64 4))))])), none⟩ :: ⟨(some 22), (.r (.call 43 [(.t 20), (.t 21)])), none⟩ :: ⟨(some 19), (.p (.mv (.t 22))), none⟩ :: ⟨(some 23), (.p (.ext (.t 19) 0)), none⟩ :: ⟨(some 24), (.p (.ext (.t 19) 1)), none⟩ :: ⟨(some 3), (.a (.alloc [(.int .i64 0), (.int .i64 0), (.int .i64 0), (.int .i64 0), (.int .i64 0), (.int .i64 0), (.int .i64 0), (.int .i64 0), (.int .i64 0), (.int .i64 0), (.int .i64 0), (.bool false)])), none⟩ :: ⟨none, (.w (.store 12 (.t 3) (.t 23))), none⟩ :: ⟨(some 4), (.p (.mv (.t 24))), none⟩ :: []))
def k38_2 : ACode := (.region (⟨(some 26), (.r (.load 12 true (.t 3))), none⟩ :: ⟨(some 27), (.p (.build [(.int .i64 0), (.int .i64 0), (.int .i64 0), (.int .i64 0), (.int .i64 0)] [(0, (1, (.c (.int .i64 2)))), (1, (1, (.c (.int .i64 3)))), (2, (1, (.c (.int .i64 4)))), (3, (1, (.c (.int .i64 4))))])), none⟩ :: ⟨(some 28), (.r (.call 43 [(.t 26), (.t 27)])), none⟩ :: ⟨(some 25), (.p (.mv (.t 28))), none⟩ :: ⟨(some 29), (.p (.ext (.t 25) 0)), none⟩ :: ⟨(some 30), (.p (.ext (.t 25) 1)), none⟩ :: ⟨none, (.w (.store 12 (.t 3) (.t 29))), none⟩ :: ⟨(some 5), (.p (.mv (.t 30))), none⟩ :: []))
def k38_3 : ACode := (.region (⟨(some 32), (.r (.load 12 true (.t 3))), none⟩ :: ⟨(some 33), (.r (.call 45 [(.t 32), (.c (.int .i64 12)), (.c (.int .i64 2))])), none⟩ :: ⟨(some 31), (.p (.mv (.t 33))), none⟩ :: ⟨(some 34), (.p (.ext (.t 31) 0)), none⟩ :: ⟨(some 35), (.p (.ext (.t 31) 1)), none⟩ :: ⟨(some 6), (.a (.alloc [(.int .i64 0), (.int .i64 0), (.int .i64 0), (.int .i64 0), (.int .i64 0), (.int .i64 0), (.int .i64 0), (.int .i64 0), (.int .i64 0), (.int .i64 0), (.int .i64 0), (.bool false)])), none⟩ :: ⟨none, (.w (.store 12 (.t 6) (.t 34))), none⟩ :: ⟨(some 7), (.p (.mv (.t 35))), none⟩ :: []))
def k38_4 : ACode := (.region (⟨(some 37), (.r (.load 12 true (.t 6))), none⟩ :: ⟨(some 38), (.r (.call 49 [(.t 37)])), none⟩ :: ⟨(some 36), (.p (.mv (.t 38))), none⟩ :: ⟨(some 39), (.p (.ext (.t 36) 0)), none⟩ :: ⟨(some 40), (.p (.ext (.t 36) 1)), none⟩ :: ⟨(some 8), (.p (.mv (.t 39))), none⟩ :: ⟨(some 9), (.p (.mv (.t 40))), none⟩ :: []))
def k38_5 : ACode := (.region (⟨(some 42), (.r (.load 12 true (.t 1))), none⟩ :: ⟨(some 43), (.p (.build [(.int .i64 0), (.int .i64 0), (.int .i64 0), (.int .i64 0), (.int .i64 0)] [(0, (1, (.c (.int .i64 2)))), (1, (1, (.c (.int .i64 4)))), (2, (1, (.c (.int .i64 4))))])), none⟩ :: ⟨(some 44), (.r (.call 43 [(.t 42), (.t 43)])), none⟩ :: ⟨(some 41), (.p (.mv (.t 44))), none⟩ :: ⟨(some 45), (.p (.ext (.t 41) 0)), none⟩ :: ⟨(some 46), (.p (.ext (.t 41) 1)), none⟩ :: ⟨(some 10), (.a (.alloc [(.int .i64 0), (.int .i64 0), (.int .i64 0), (.int .i64 0), (.int .i64 0), (.int .i64 0), (.int .i64 0), (.int .i64 0), (.int .i64 0), (.int .i64 0), (.int .i64 0), (.bool false)])), none⟩ :: ⟨none, (.w (.store 12 (.t 10) (.t 45))), none⟩ :: ⟨(some 11), (.p (.mv (.t 46))), none⟩ :: []))
def k38_6 : ACode := (.region (⟨(some 48), (.r (.load 12 true (.t 6))), none⟩ :: ⟨(some 49), (.r (.call 47 [(.t 48)])), none⟩ :: ⟨(some 47), (.p (.mv (.t 49))), none⟩ :: ⟨(some 50), (.p (.ext (.t 47) 0)), none⟩ :: ⟨(some 51), (.p (.ext (.t 47) 1)), none⟩ :: ⟨(some 12), (.a (.alloc [(.int .i64 0), (.int .i64 0), (.int .i64 0), (.int .i64 0), (.int .i64 0), (.int .i64 0), (.int .i64 0), (.int .i64 0), (.int .i64 0), (.int .i64 0), (.int .i64 0), (.bool false)])), none⟩ :: ⟨none, (.w (.store 12 (.t 12) (.t 50))), none⟩ :: ⟨(some 13), (.p (.mv (.t 51))), none⟩ :: []))
def k38_7 : ACode := (.region (⟨(some 52), (.p (.mv (.t 2))), none⟩ :: ⟨(some 53), (.p (.bin .eql (.t 52) (.c (.int .i64 0)))), none⟩ :: ⟨(some 54), (.p (.mv (.t 53))), none⟩ :: ⟨(some 55), (.p (.mv (.t 4))), (some (54, true))⟩ :: ⟨(some 56), (.p (.bin .eql (.t 55) (.c (.int .i64 0)))), (some (54, true))⟩ :: ⟨(some 57), (.p (.pick (.t 54) (.t 56) (.c (.bool false)))), none⟩ :: t38_0))
def k38_8 : ACode := (.seq k38_7 .ret)
def k38_9 : ACode := (.seq k38_6 k38_8)
def k38_10 : ACode := (.seq k38_5 k38_9)
def k38_11 : ACode := (.seq k38_4 k38_10)
def k38_12 : ACode := (.seq k38_3 k38_11)
def k38_13 : ACode := (.seq k38_2 k38_12)
def k38_14 : ACode := (.seq k38_1 k38_13)
def k38_15 : ACode := (.seq k38_0 k38_14)
def cd38 : ACode := (.seq (.region (⟨(some 0), (.p (.mv (.c (.bool false)))), none⟩ :: [])) k38_15)
def rs38 : List ARes := [(.tmp 0)]
def af38 : AFn := ⟨cd38, rs38, 110⟩
theorem c38 : compF Try.prog 38 = some af38 := by kernel_rfl
noncomputable def g_snafflelaw07_awake : Option Bool := (Option.bind (g_order_Begin (RecT.mk 1 4 0 0 1 10 3 0 0 0 false 0 0)) fun v1 => (Option.bind (g_order_Take v1.1 (NoteT.mk 1 1 4 0 0)) fun v2 => (Option.bind (g_order_Take v2.1 (NoteT.mk 2 3 4 4 0)) fun v3 => (Option.bind (g_order_Change v3.1 12 2) fun v4 => (Option.bind (g_order_Worth v4.1) fun v5 => (Option.bind (g_order_Take v1.1 (NoteT.mk 2 4 4 0 0)) fun v6 => (Option.bind (g_order_End v4.1) fun v7 => (Option.bind (bif (((((v1.2 == 0) && (v2.2 == 0)) && (v3.2 == 0)) && (v4.2 == 0)) && (v5.2 == 0)) then (Option.bind (g_order_Open v3.1) fun v49 => (some (v49 == 6))) else (some false)) fun (b21 : Bool) => (Option.bind (bif b21 then (Option.bind (g_order_Open v4.1) fun v48 => (some (v48 == 8))) else (some false)) fun (b24 : Bool) => (Option.bind (bif (((((b24 && (v5.1 == 18)) && (v6.2 == 8)) && (v7.2 == 0)) && v7.1.Asked) && (v4.1.Version == 1)) then (Option.bind (g_order_Right v7.1) fun v47 => (some v47)) else (some false)) fun (b42 : Bool) => (some (b42 && (v1.1.Phase == 1)))))))))))))
noncomputable def sp38 : List DV → Option DV := specT (fun (_ : Unit) => []) (fun (r : Bool) => .bool r) (fun (_ : Unit) => g_snafflelaw07_awake)
theorem inj38 (a b : Unit) (_ : List.map z1 ((fun (_ : Unit) => []) a) = List.map z1 ((fun (_ : Unit) => []) b)) : a = b := rfl
set_option maxHeartbeats 1000000 in
theorem w38 {C : FuncId → Con} (hC : ConOk Try.prog C) {q39 : List DV → Option DV} (hc39 : C 39 = .val q39) (hs39 : ∀ (x0 : RecT) (ds : List DV), List.map z1 ds = List.map z1 [.agg (e_RecT x0)] → q39 ds = (g_order_Begin x0).map fun r => .tup [.agg (e_OrderT r.1), .int .i64 r.2]) {q43 : List DV → Option DV} (hc43 : C 43 = .val q43) (hs43 : ∀ (x0 : OrderT) (x1 : NoteT) (ds : List DV), List.map z1 ds = List.map z1 [.agg (e_OrderT x0), .agg (e_NoteT x1)] → q43 ds = (g_order_Take x0 x1).map fun r => .tup [.agg (e_OrderT r.1), .int .i64 r.2]) {q45 : List DV → Option DV} (hc45 : C 45 = .val q45) (hs45 : ∀ (x0 : OrderT) (x1 : Int) (x2 : Int) (ds : List DV), List.map z1 ds = List.map z1 [.agg (e_OrderT x0), .int .i64 x1, .int .i64 x2] → q45 ds = (g_order_Change x0 x1 x2).map fun r => .tup [.agg (e_OrderT r.1), .int .i64 r.2]) {q49 : List DV → Option DV} (hc49 : C 49 = .val q49) (hs49 : ∀ (x0 : OrderT) (ds : List DV), List.map z1 ds = List.map z1 [.agg (e_OrderT x0)] → q49 ds = (g_order_Worth x0).map fun r => .tup [.int .i64 r.1, .int .i64 r.2]) {q47 : List DV → Option DV} (hc47 : C 47 = .val q47) (hs47 : ∀ (x0 : OrderT) (ds : List DV), List.map z1 ds = List.map z1 [.agg (e_OrderT x0)] → q47 ds = (g_order_End x0).map fun r => .tup [.agg (e_OrderT r.1), .int .i64 r.2]) {q37 : List DV → Option DV} (hc37 : C 37 = .val q37) (hs37 : ∀ (x0 : OrderT) (ds : List DV), List.map z1 ds = List.map z1 [.agg (e_OrderT x0)] → q37 ds = (g_order_Open x0).map fun r => .int .i64 r) {q41 : List DV → Option DV} (hc41 : C 41 = .val q41) (hs41 : ∀ (x0 : OrderT) (ds : List DV), List.map z1 ds = List.map z1 [.agg (e_OrderT x0)] → q41 ds = (g_order_Right x0).map fun r => .bool r) : ValOk Try.prog 38 sp38 := by
 refine valT_of hC c38 _ _ _ inj38 ?_
 rintro ⟨⟩
 show Imq (g_snafflelaw07_awake) (fun _ => True) fun r => WP Try.prog C (fun _ => False) cd38 (retQ fun s => outV s rs38 = some (.bool r)) ⟨⟨110, []⟩, mkH []⟩
 unfold g_snafflelaw07_awake
 refine G_seq ?_
 refine G_region ?_
 refine G_op [0] (v := (bb false)) (E_p (by kernel_rfl)) rfl rfl ?_
 refine G_nil ?_
 refine G_then ?_
 refine G_seq ?_
 refine G_region ?_
 refine G_op [0] (v := (.agg [(ii 1), (ii 4), (ii 0), (ii 0), (ii 1), (ii 10), (ii 3), (ii 0), (ii 0), (ii 0), (bb false), (ii 0), (ii 0)])) (E_p (by kernel_rfl)) rfl rfl ?_
 refine q_bind fun v1 hv1 => ?_
 refine G_op [0] (v := (.val (.tup [(.agg [(.int .i64 v1.1.Id), (.int .i64 v1.1.Account), (.int .i64 v1.1.Symbol), (.int .i64 v1.1.Side), (.int .i64 v1.1.Qty), (.int .i64 v1.1.Price), (.int .i64 v1.1.Filled), (.int .i64 v1.1.Phase), (.int .i64 v1.1.NewQty), (.int .i64 v1.1.NewPrice), (.int .i64 v1.1.Version), (.bool v1.1.Asked)]), (.int .i64 v1.2)]))) (E_call (ds := [.agg (e_RecT (RecT.mk 1 4 0 0 1 10 3 0 0 0 false 0 0))]) (r := .tup [.agg (e_OrderT v1.1), .int .i64 v1.2]) hc39 (by kernel_rfl) ((hs39 (RecT.mk 1 4 0 0 1 10 3 0 0 0 false 0 0) _ (by kernel_rfl)).trans (congrArg _ hv1))) rfl rfl ?_
 refine G_op [0] (v := (.val (.tup [(.agg [(.int .i64 v1.1.Id), (.int .i64 v1.1.Account), (.int .i64 v1.1.Symbol), (.int .i64 v1.1.Side), (.int .i64 v1.1.Qty), (.int .i64 v1.1.Price), (.int .i64 v1.1.Filled), (.int .i64 v1.1.Phase), (.int .i64 v1.1.NewQty), (.int .i64 v1.1.NewPrice), (.int .i64 v1.1.Version), (.bool v1.1.Asked)]), (.int .i64 v1.2)]))) (E_p (by kernel_rfl)) rfl rfl ?_
 refine G_op [0] (v := (.val (.agg [(.int .i64 v1.1.Id), (.int .i64 v1.1.Account), (.int .i64 v1.1.Symbol), (.int .i64 v1.1.Side), (.int .i64 v1.1.Qty), (.int .i64 v1.1.Price), (.int .i64 v1.1.Filled), (.int .i64 v1.1.Phase), (.int .i64 v1.1.NewQty), (.int .i64 v1.1.NewPrice), (.int .i64 v1.1.Version), (.bool v1.1.Asked)]))) (E_p (by kernel_rfl)) rfl rfl ?_
 refine G_op [0] (v := (ii v1.2)) (E_p (by kernel_rfl)) rfl rfl ?_
 refine G_op [1001] (v := (.box [1001] 0)) (E_a (u := (.box [1001] 0)) (b := (.box zOrderT)) (h' := [([1001], (.box zOrderT))]) (by kernel_rfl) (by kernel_rfl) (by kernel_rfl)) rfl rfl ?_
 refine G_op0 [0] (v := (.val (.tup []))) (E_store (b := [1001]) (o := 0) (cs := (lOrderT v1.1)) (cells := zOrderT) (cells' := (lOrderT v1.1)) (h' := [([1001], (.box (lOrderT v1.1)))]) (by kernel_rfl) (by kernel_rfl) (by kernel_rfl) rfl (by kernel_rfl) (by kernel_rfl) (by kernel_rfl) (by kernel_rfl)) rfl ?_
 refine G_op [0] (v := (ii v1.2)) (E_p (by kernel_rfl)) rfl rfl ?_
 refine G_nil ?_
 refine G_then ?_
 refine G_seq ?_
 refine G_region ?_
 refine G_op [0] (v := (.agg (lOrderT v1.1))) (E_load (by kernel_rfl)) rfl rfl ?_
 refine G_op [0] (v := (.agg [(ii 1), (ii 1), (ii 4), (ii 0), (ii 0)])) (E_p (by kernel_rfl)) rfl rfl ?_
 refine q_bind fun v2 hv2 => ?_
 refine G_op [0] (v := (.val (.tup [(.agg [(.int .i64 v2.1.Id), (.int .i64 v2.1.Account), (.int .i64 v2.1.Symbol), (.int .i64 v2.1.Side), (.int .i64 v2.1.Qty), (.int .i64 v2.1.Price), (.int .i64 v2.1.Filled), (.int .i64 v2.1.Phase), (.int .i64 v2.1.NewQty), (.int .i64 v2.1.NewPrice), (.int .i64 v2.1.Version), (.bool v2.1.Asked)]), (.int .i64 v2.2)]))) (E_call (ds := [.agg (e_OrderT v1.1), .agg (e_NoteT (NoteT.mk 1 1 4 0 0))]) (r := .tup [.agg (e_OrderT v2.1), .int .i64 v2.2]) hc43 (by kernel_rfl) ((hs43 v1.1 (NoteT.mk 1 1 4 0 0) _ (by kernel_rfl)).trans (congrArg _ hv2))) rfl rfl ?_
 refine G_op [0] (v := (.val (.tup [(.agg [(.int .i64 v2.1.Id), (.int .i64 v2.1.Account), (.int .i64 v2.1.Symbol), (.int .i64 v2.1.Side), (.int .i64 v2.1.Qty), (.int .i64 v2.1.Price), (.int .i64 v2.1.Filled), (.int .i64 v2.1.Phase), (.int .i64 v2.1.NewQty), (.int .i64 v2.1.NewPrice), (.int .i64 v2.1.Version), (.bool v2.1.Asked)]), (.int .i64 v2.2)]))) (E_p (by kernel_rfl)) rfl rfl ?_
 refine G_op [0] (v := (.val (.agg [(.int .i64 v2.1.Id), (.int .i64 v2.1.Account), (.int .i64 v2.1.Symbol), (.int .i64 v2.1.Side), (.int .i64 v2.1.Qty), (.int .i64 v2.1.Price), (.int .i64 v2.1.Filled), (.int .i64 v2.1.Phase), (.int .i64 v2.1.NewQty), (.int .i64 v2.1.NewPrice), (.int .i64 v2.1.Version), (.bool v2.1.Asked)]))) (E_p (by kernel_rfl)) rfl rfl ?_
 refine G_op [0] (v := (ii v2.2)) (E_p (by kernel_rfl)) rfl rfl ?_
 refine G_op [1002] (v := (.box [1002] 0)) (E_a (u := (.box [1002] 0)) (b := (.box zOrderT)) (h' := [([1001], (.box (lOrderT v1.1))), ([1002], (.box zOrderT))]) (by kernel_rfl) (by kernel_rfl) (by kernel_rfl)) rfl rfl ?_
 refine G_op0 [0] (v := (.val (.tup []))) (E_store (b := [1002]) (o := 0) (cs := (lOrderT v2.1)) (cells := zOrderT) (cells' := (lOrderT v2.1)) (h' := [([1001], (.box (lOrderT v1.1))), ([1002], (.box (lOrderT v2.1)))]) (by kernel_rfl) (by kernel_rfl) (by kernel_rfl) rfl (by kernel_rfl) (by kernel_rfl) (by kernel_rfl) (by kernel_rfl)) rfl ?_
 refine G_op [0] (v := (ii v2.2)) (E_p (by kernel_rfl)) rfl rfl ?_
 refine G_nil ?_
 refine G_then ?_
 refine G_subW (s0 := ⟨⟨110, [(4, (ii v2.2)), (3, (.box [1002] 0)), (2, (ii v1.2)), (1, (.box [1001] 0)), (0, (bb false))]⟩, mkH [([1001], (.box (lOrderT v1.1))), ([1002], (.box (lOrderT v2.1)))]⟩) (by exact Sub_env ⟨.refl _, .refl _, .refl _, .refl _, .refl _, trivial⟩) ?_
 refine G_seq ?_
 refine G_region ?_
 refine G_op [0] (v := (.agg (lOrderT v2.1))) (E_load (by kernel_rfl)) rfl rfl ?_
 refine G_op [0] (v := (.agg [(ii 2), (ii 3), (ii 4), (ii 4), (ii 0)])) (E_p (by kernel_rfl)) rfl rfl ?_
 refine q_bind fun v3 hv3 => ?_
 refine G_op [0] (v := (.val (.tup [(.agg [(.int .i64 v3.1.Id), (.int .i64 v3.1.Account), (.int .i64 v3.1.Symbol), (.int .i64 v3.1.Side), (.int .i64 v3.1.Qty), (.int .i64 v3.1.Price), (.int .i64 v3.1.Filled), (.int .i64 v3.1.Phase), (.int .i64 v3.1.NewQty), (.int .i64 v3.1.NewPrice), (.int .i64 v3.1.Version), (.bool v3.1.Asked)]), (.int .i64 v3.2)]))) (E_call (ds := [.agg (e_OrderT v2.1), .agg (e_NoteT (NoteT.mk 2 3 4 4 0))]) (r := .tup [.agg (e_OrderT v3.1), .int .i64 v3.2]) hc43 (by kernel_rfl) ((hs43 v2.1 (NoteT.mk 2 3 4 4 0) _ (by kernel_rfl)).trans (congrArg _ hv3))) rfl rfl ?_
 refine G_op [0] (v := (.val (.tup [(.agg [(.int .i64 v3.1.Id), (.int .i64 v3.1.Account), (.int .i64 v3.1.Symbol), (.int .i64 v3.1.Side), (.int .i64 v3.1.Qty), (.int .i64 v3.1.Price), (.int .i64 v3.1.Filled), (.int .i64 v3.1.Phase), (.int .i64 v3.1.NewQty), (.int .i64 v3.1.NewPrice), (.int .i64 v3.1.Version), (.bool v3.1.Asked)]), (.int .i64 v3.2)]))) (E_p (by kernel_rfl)) rfl rfl ?_
 refine G_op [0] (v := (.val (.agg [(.int .i64 v3.1.Id), (.int .i64 v3.1.Account), (.int .i64 v3.1.Symbol), (.int .i64 v3.1.Side), (.int .i64 v3.1.Qty), (.int .i64 v3.1.Price), (.int .i64 v3.1.Filled), (.int .i64 v3.1.Phase), (.int .i64 v3.1.NewQty), (.int .i64 v3.1.NewPrice), (.int .i64 v3.1.Version), (.bool v3.1.Asked)]))) (E_p (by kernel_rfl)) rfl rfl ?_
 refine G_op [0] (v := (ii v3.2)) (E_p (by kernel_rfl)) rfl rfl ?_
 refine G_op0 [0] (v := (.val (.tup []))) (E_store (b := [1002]) (o := 0) (cs := (lOrderT v3.1)) (cells := (lOrderT v2.1)) (cells' := (lOrderT v3.1)) (h' := [([1001], (.box (lOrderT v1.1))), ([1002], (.box (lOrderT v3.1)))]) (by kernel_rfl) (by kernel_rfl) (by kernel_rfl) rfl (by kernel_rfl) (by kernel_rfl) (by kernel_rfl) (by kernel_rfl)) rfl ?_
 refine G_op [0] (v := (ii v3.2)) (E_p (by kernel_rfl)) rfl rfl ?_
 refine G_nil ?_
 refine G_then ?_
 refine G_seq ?_
 refine G_region ?_
 refine G_op [0] (v := (.agg (lOrderT v3.1))) (E_load (by kernel_rfl)) rfl rfl ?_
 refine q_bind fun v4 hv4 => ?_
 refine G_op [0] (v := (.val (.tup [(.agg [(.int .i64 v4.1.Id), (.int .i64 v4.1.Account), (.int .i64 v4.1.Symbol), (.int .i64 v4.1.Side), (.int .i64 v4.1.Qty), (.int .i64 v4.1.Price), (.int .i64 v4.1.Filled), (.int .i64 v4.1.Phase), (.int .i64 v4.1.NewQty), (.int .i64 v4.1.NewPrice), (.int .i64 v4.1.Version), (.bool v4.1.Asked)]), (.int .i64 v4.2)]))) (E_call (ds := [.agg (e_OrderT v3.1), .int .i64 12, .int .i64 2]) (r := .tup [.agg (e_OrderT v4.1), .int .i64 v4.2]) hc45 (by kernel_rfl) ((hs45 v3.1 12 2 _ (by kernel_rfl)).trans (congrArg _ hv4))) rfl rfl ?_
 refine G_op [0] (v := (.val (.tup [(.agg [(.int .i64 v4.1.Id), (.int .i64 v4.1.Account), (.int .i64 v4.1.Symbol), (.int .i64 v4.1.Side), (.int .i64 v4.1.Qty), (.int .i64 v4.1.Price), (.int .i64 v4.1.Filled), (.int .i64 v4.1.Phase), (.int .i64 v4.1.NewQty), (.int .i64 v4.1.NewPrice), (.int .i64 v4.1.Version), (.bool v4.1.Asked)]), (.int .i64 v4.2)]))) (E_p (by kernel_rfl)) rfl rfl ?_
 refine G_op [0] (v := (.val (.agg [(.int .i64 v4.1.Id), (.int .i64 v4.1.Account), (.int .i64 v4.1.Symbol), (.int .i64 v4.1.Side), (.int .i64 v4.1.Qty), (.int .i64 v4.1.Price), (.int .i64 v4.1.Filled), (.int .i64 v4.1.Phase), (.int .i64 v4.1.NewQty), (.int .i64 v4.1.NewPrice), (.int .i64 v4.1.Version), (.bool v4.1.Asked)]))) (E_p (by kernel_rfl)) rfl rfl ?_
 refine G_op [0] (v := (ii v4.2)) (E_p (by kernel_rfl)) rfl rfl ?_
 refine G_op [1003] (v := (.box [1003] 0)) (E_a (u := (.box [1003] 0)) (b := (.box zOrderT)) (h' := [([1001], (.box (lOrderT v1.1))), ([1002], (.box (lOrderT v3.1))), ([1003], (.box zOrderT))]) (by kernel_rfl) (by kernel_rfl) (by kernel_rfl)) rfl rfl ?_
 refine G_op0 [0] (v := (.val (.tup []))) (E_store (b := [1003]) (o := 0) (cs := (lOrderT v4.1)) (cells := zOrderT) (cells' := (lOrderT v4.1)) (h' := [([1001], (.box (lOrderT v1.1))), ([1002], (.box (lOrderT v3.1))), ([1003], (.box (lOrderT v4.1)))]) (by kernel_rfl) (by kernel_rfl) (by kernel_rfl) rfl (by kernel_rfl) (by kernel_rfl) (by kernel_rfl) (by kernel_rfl)) rfl ?_
 refine G_op [0] (v := (ii v4.2)) (E_p (by kernel_rfl)) rfl rfl ?_
 refine G_nil ?_
 refine G_then ?_
 refine G_subW (s0 := ⟨⟨110, [(7, (ii v4.2)), (6, (.box [1003] 0)), (5, (ii v3.2)), (4, (ii v2.2)), (3, (.box [1002] 0)), (2, (ii v1.2)), (1, (.box [1001] 0)), (0, (bb false))]⟩, mkH [([1001], (.box (lOrderT v1.1))), ([1002], (.box (lOrderT v3.1))), ([1003], (.box (lOrderT v4.1)))]⟩) (by exact Sub_env ⟨.refl _, .refl _, .refl _, .refl _, .refl _, .refl _, .refl _, .refl _, trivial⟩) ?_
 refine G_seq ?_
 refine G_region ?_
 refine G_op [0] (v := (.agg (lOrderT v4.1))) (E_load (by kernel_rfl)) rfl rfl ?_
 refine q_bind fun v5 hv5 => ?_
 refine G_op [0] (v := (.val (.tup [(.int .i64 v5.1), (.int .i64 v5.2)]))) (E_call (ds := [.agg (e_OrderT v4.1)]) (r := .tup [.int .i64 v5.1, .int .i64 v5.2]) hc49 (by kernel_rfl) ((hs49 v4.1 _ (by kernel_rfl)).trans (congrArg _ hv5))) rfl rfl ?_
 refine G_op [0] (v := (.val (.tup [(.int .i64 v5.1), (.int .i64 v5.2)]))) (E_p (by kernel_rfl)) rfl rfl ?_
 refine G_op [0] (v := (ii v5.1)) (E_p (by kernel_rfl)) rfl rfl ?_
 refine G_op [0] (v := (ii v5.2)) (E_p (by kernel_rfl)) rfl rfl ?_
 refine G_op [0] (v := (ii v5.1)) (E_p (by kernel_rfl)) rfl rfl ?_
 refine G_op [0] (v := (ii v5.2)) (E_p (by kernel_rfl)) rfl rfl ?_
 refine G_nil ?_
 refine G_then ?_
 refine G_seq ?_
 refine G_region ?_
 refine G_op [0] (v := (.agg (lOrderT v1.1))) (E_load (by kernel_rfl)) rfl rfl ?_
 refine G_op [0] (v := (.agg [(ii 2), (ii 4), (ii 4), (ii 0), (ii 0)])) (E_p (by kernel_rfl)) rfl rfl ?_
 refine q_bind fun v6 hv6 => ?_
 refine G_op [0] (v := (.val (.tup [(.agg [(.int .i64 v6.1.Id), (.int .i64 v6.1.Account), (.int .i64 v6.1.Symbol), (.int .i64 v6.1.Side), (.int .i64 v6.1.Qty), (.int .i64 v6.1.Price), (.int .i64 v6.1.Filled), (.int .i64 v6.1.Phase), (.int .i64 v6.1.NewQty), (.int .i64 v6.1.NewPrice), (.int .i64 v6.1.Version), (.bool v6.1.Asked)]), (.int .i64 v6.2)]))) (E_call (ds := [.agg (e_OrderT v1.1), .agg (e_NoteT (NoteT.mk 2 4 4 0 0))]) (r := .tup [.agg (e_OrderT v6.1), .int .i64 v6.2]) hc43 (by kernel_rfl) ((hs43 v1.1 (NoteT.mk 2 4 4 0 0) _ (by kernel_rfl)).trans (congrArg _ hv6))) rfl rfl ?_
 refine G_op [0] (v := (.val (.tup [(.agg [(.int .i64 v6.1.Id), (.int .i64 v6.1.Account), (.int .i64 v6.1.Symbol), (.int .i64 v6.1.Side), (.int .i64 v6.1.Qty), (.int .i64 v6.1.Price), (.int .i64 v6.1.Filled), (.int .i64 v6.1.Phase), (.int .i64 v6.1.NewQty), (.int .i64 v6.1.NewPrice), (.int .i64 v6.1.Version), (.bool v6.1.Asked)]), (.int .i64 v6.2)]))) (E_p (by kernel_rfl)) rfl rfl ?_
 refine G_op [0] (v := (.val (.agg [(.int .i64 v6.1.Id), (.int .i64 v6.1.Account), (.int .i64 v6.1.Symbol), (.int .i64 v6.1.Side), (.int .i64 v6.1.Qty), (.int .i64 v6.1.Price), (.int .i64 v6.1.Filled), (.int .i64 v6.1.Phase), (.int .i64 v6.1.NewQty), (.int .i64 v6.1.NewPrice), (.int .i64 v6.1.Version), (.bool v6.1.Asked)]))) (E_p (by kernel_rfl)) rfl rfl ?_
 refine G_op [0] (v := (ii v6.2)) (E_p (by kernel_rfl)) rfl rfl ?_
 refine G_op [1004] (v := (.box [1004] 0)) (E_a (u := (.box [1004] 0)) (b := (.box zOrderT)) (h' := [([1001], (.box (lOrderT v1.1))), ([1002], (.box (lOrderT v3.1))), ([1003], (.box (lOrderT v4.1))), ([1004], (.box zOrderT))]) (by kernel_rfl) (by kernel_rfl) (by kernel_rfl)) rfl rfl ?_
 refine G_op0 [0] (v := (.val (.tup []))) (E_store (b := [1004]) (o := 0) (cs := (lOrderT v6.1)) (cells := zOrderT) (cells' := (lOrderT v6.1)) (h' := [([1001], (.box (lOrderT v1.1))), ([1002], (.box (lOrderT v3.1))), ([1003], (.box (lOrderT v4.1))), ([1004], (.box (lOrderT v6.1)))]) (by kernel_rfl) (by kernel_rfl) (by kernel_rfl) rfl (by kernel_rfl) (by kernel_rfl) (by kernel_rfl) (by kernel_rfl)) rfl ?_
 refine G_op [0] (v := (ii v6.2)) (E_p (by kernel_rfl)) rfl rfl ?_
 refine G_nil ?_
 refine G_then ?_
 refine G_subW (s0 := ⟨⟨110, [(11, (ii v6.2)), (9, (ii v5.2)), (8, (ii v5.1)), (7, (ii v4.2)), (6, (.box [1003] 0)), (5, (ii v3.2)), (4, (ii v2.2)), (3, (.box [1002] 0)), (2, (ii v1.2)), (1, (.box [1001] 0)), (0, (bb false))]⟩, mkH [([1001], (.box (lOrderT v1.1))), ([1002], (.box (lOrderT v3.1))), ([1003], (.box (lOrderT v4.1)))]⟩) (by exact Sub_keep ⟨.refl _, .refl _, .refl _, .refl _, .refl _, .refl _, .refl _, .refl _, .refl _, .refl _, .refl _, trivial⟩ ⟨⟨_, (by kernel_rfl), .refl _⟩, ⟨_, (by kernel_rfl), .refl _⟩, ⟨_, (by kernel_rfl), .refl _⟩, trivial⟩ (by kernel_rfl) (by kernel_rfl)) ?_
 refine G_seq ?_
 refine G_region ?_
 refine G_op [0] (v := (.agg (lOrderT v4.1))) (E_load (by kernel_rfl)) rfl rfl ?_
 refine q_bind fun v7 hv7 => ?_
 refine G_op [0] (v := (.val (.tup [(.agg [(.int .i64 v7.1.Id), (.int .i64 v7.1.Account), (.int .i64 v7.1.Symbol), (.int .i64 v7.1.Side), (.int .i64 v7.1.Qty), (.int .i64 v7.1.Price), (.int .i64 v7.1.Filled), (.int .i64 v7.1.Phase), (.int .i64 v7.1.NewQty), (.int .i64 v7.1.NewPrice), (.int .i64 v7.1.Version), (.bool v7.1.Asked)]), (.int .i64 v7.2)]))) (E_call (ds := [.agg (e_OrderT v4.1)]) (r := .tup [.agg (e_OrderT v7.1), .int .i64 v7.2]) hc47 (by kernel_rfl) ((hs47 v4.1 _ (by kernel_rfl)).trans (congrArg _ hv7))) rfl rfl ?_
 refine G_op [0] (v := (.val (.tup [(.agg [(.int .i64 v7.1.Id), (.int .i64 v7.1.Account), (.int .i64 v7.1.Symbol), (.int .i64 v7.1.Side), (.int .i64 v7.1.Qty), (.int .i64 v7.1.Price), (.int .i64 v7.1.Filled), (.int .i64 v7.1.Phase), (.int .i64 v7.1.NewQty), (.int .i64 v7.1.NewPrice), (.int .i64 v7.1.Version), (.bool v7.1.Asked)]), (.int .i64 v7.2)]))) (E_p (by kernel_rfl)) rfl rfl ?_
 refine G_op [0] (v := (.val (.agg [(.int .i64 v7.1.Id), (.int .i64 v7.1.Account), (.int .i64 v7.1.Symbol), (.int .i64 v7.1.Side), (.int .i64 v7.1.Qty), (.int .i64 v7.1.Price), (.int .i64 v7.1.Filled), (.int .i64 v7.1.Phase), (.int .i64 v7.1.NewQty), (.int .i64 v7.1.NewPrice), (.int .i64 v7.1.Version), (.bool v7.1.Asked)]))) (E_p (by kernel_rfl)) rfl rfl ?_
 refine G_op [0] (v := (ii v7.2)) (E_p (by kernel_rfl)) rfl rfl ?_
 refine G_op [1005] (v := (.box [1005] 0)) (E_a (u := (.box [1005] 0)) (b := (.box zOrderT)) (h' := [([1001], (.box (lOrderT v1.1))), ([1002], (.box (lOrderT v3.1))), ([1003], (.box (lOrderT v4.1))), ([1005], (.box zOrderT))]) (by kernel_rfl) (by kernel_rfl) (by kernel_rfl)) rfl rfl ?_
 refine G_op0 [0] (v := (.val (.tup []))) (E_store (b := [1005]) (o := 0) (cs := (lOrderT v7.1)) (cells := zOrderT) (cells' := (lOrderT v7.1)) (h' := [([1001], (.box (lOrderT v1.1))), ([1002], (.box (lOrderT v3.1))), ([1003], (.box (lOrderT v4.1))), ([1005], (.box (lOrderT v7.1)))]) (by kernel_rfl) (by kernel_rfl) (by kernel_rfl) rfl (by kernel_rfl) (by kernel_rfl) (by kernel_rfl) (by kernel_rfl)) rfl ?_
 refine G_op [0] (v := (ii v7.2)) (E_p (by kernel_rfl)) rfl rfl ?_
 refine G_nil ?_
 refine G_then ?_
 refine G_seq ?_
 refine G_region ?_
 refine G_op [0] (v := (ii v1.2)) (E_p (by kernel_rfl)) rfl rfl ?_
 refine G_op [0] (v := (bb ((v1.2 == 0)))) (E_p (by kernel_rfl)) rfl rfl ?_
 refine G_op [0] (v := (bb ((v1.2 == 0)))) (E_p (by kernel_rfl)) rfl rfl ?_
 refine G_pure (l := t38_0) (st := ⟨⟨110, [(57, (bb (((v1.2 == 0) && (v2.2 == 0))))), (13, (ii v7.2)), (12, (.box [1005] 0)), (11, (ii v6.2)), (9, (ii v5.2)), (8, (ii v5.1)), (7, (ii v4.2)), (6, (.box [1003] 0)), (5, (ii v3.2)), (3, (.box [1002] 0)), (1, (.box [1001] 0)), (0, (bb false))]⟩, mkH [([1001], (.box (lOrderT v1.1))), ([1002], (.box (lOrderT v3.1))), ([1003], (.box (lOrderT v4.1))), ([1005], (.box (lOrderT v7.1)))]⟩) ?_ (fun r10 => ?_)
 ·refine G_op [0] (v := (bb (((v1.2 == 0) && (v2.2 == 0))))) (E_p (by kernel_rfl)) rfl rfl ?_
  refine G_pure (l := t38_1) (st := ⟨⟨110, [(61, (bb ((((v1.2 == 0) && (v2.2 == 0)) && (v3.2 == 0))))), (13, (ii v7.2)), (12, (.box [1005] 0)), (11, (ii v6.2)), (9, (ii v5.2)), (8, (ii v5.1)), (7, (ii v4.2)), (6, (.box [1003] 0)), (3, (.box [1002] 0)), (1, (.box [1001] 0)), (0, (bb false))]⟩, mkH [([1001], (.box (lOrderT v1.1))), ([1002], (.box (lOrderT v3.1))), ([1003], (.box (lOrderT v4.1))), ([1005], (.box (lOrderT v7.1)))]⟩) ?_ (fun r13 => ?_)
  ·refine G_op [0] (v := (bb ((((v1.2 == 0) && (v2.2 == 0)) && (v3.2 == 0))))) (E_p (by kernel_rfl)) rfl rfl ?_
   refine G_pure (l := t38_2) (st := ⟨⟨110, [(65, (bb (((((v1.2 == 0) && (v2.2 == 0)) && (v3.2 == 0)) && (v4.2 == 0))))), (13, (ii v7.2)), (12, (.box [1005] 0)), (11, (ii v6.2)), (9, (ii v5.2)), (8, (ii v5.1)), (6, (.box [1003] 0)), (3, (.box [1002] 0)), (1, (.box [1001] 0)), (0, (bb false))]⟩, mkH [([1001], (.box (lOrderT v1.1))), ([1002], (.box (lOrderT v3.1))), ([1003], (.box (lOrderT v4.1))), ([1005], (.box (lOrderT v7.1)))]⟩) ?_ (fun r16 => ?_)
   ·refine G_op [0] (v := (bb (((((v1.2 == 0) && (v2.2 == 0)) && (v3.2 == 0)) && (v4.2 == 0))))) (E_p (by kernel_rfl)) rfl rfl ?_
    refine G_pure (l := t38_3) (st := ⟨⟨110, [(69, (bb ((((((v1.2 == 0) && (v2.2 == 0)) && (v3.2 == 0)) && (v4.2 == 0)) && (v5.2 == 0))))), (13, (ii v7.2)), (12, (.box [1005] 0)), (11, (ii v6.2)), (8, (ii v5.1)), (6, (.box [1003] 0)), (3, (.box [1002] 0)), (1, (.box [1001] 0)), (0, (bb false))]⟩, mkH [([1001], (.box (lOrderT v1.1))), ([1002], (.box (lOrderT v3.1))), ([1003], (.box (lOrderT v4.1))), ([1005], (.box (lOrderT v7.1)))]⟩) ?_ (fun r19 => ?_)
    ·refine G_op [0] (v := (bb ((((((v1.2 == 0) && (v2.2 == 0)) && (v3.2 == 0)) && (v4.2 == 0)) && (v5.2 == 0))))) (E_p (by kernel_rfl)) rfl rfl ?_
     refine G_joinR (l := t38_4) (st := fun (b21 : Bool) => ⟨⟨110, [(74, (bb b21)), (13, (ii v7.2)), (12, (.box [1005] 0)), (11, (ii v6.2)), (8, (ii v5.1)), (6, (.box [1003] 0)), (1, (.box [1001] 0)), (0, (bb false))]⟩, mkH [([1001], (.box (lOrderT v1.1))), ([1003], (.box (lOrderT v4.1))), ([1005], (.box (lOrderT v7.1)))]⟩) (fun b21 => ?_) (fun r22 hr22 => ?_)
     ·refine G_op [0] (v := (bb b21)) (E_p (by kernel_rfl)) rfl rfl ?_
      refine G_joinR (l := t38_5) (st := fun (b24 : Bool) => ⟨⟨110, [(79, (bb b24)), (13, (ii v7.2)), (12, (.box [1005] 0)), (11, (ii v6.2)), (8, (ii v5.1)), (6, (.box [1003] 0)), (1, (.box [1001] 0)), (0, (bb false))]⟩, mkH [([1001], (.box (lOrderT v1.1))), ([1003], (.box (lOrderT v4.1))), ([1005], (.box (lOrderT v7.1)))]⟩) (fun b24 => ?_) (fun r25 hr25 => ?_)
      ·refine G_op [0] (v := (bb b24)) (E_p (by kernel_rfl)) rfl rfl ?_
       refine G_pure (l := t38_6) (st := ⟨⟨110, [(83, (bb ((b24 && (v5.1 == 18))))), (13, (ii v7.2)), (12, (.box [1005] 0)), (11, (ii v6.2)), (6, (.box [1003] 0)), (1, (.box [1001] 0)), (0, (bb false))]⟩, mkH [([1001], (.box (lOrderT v1.1))), ([1003], (.box (lOrderT v4.1))), ([1005], (.box (lOrderT v7.1)))]⟩) ?_ (fun r28 => ?_)
       ·refine G_op [0] (v := (bb ((b24 && (v5.1 == 18))))) (E_p (by kernel_rfl)) rfl rfl ?_
        refine G_pure (l := t38_7) (st := ⟨⟨110, [(87, (bb (((b24 && (v5.1 == 18)) && (v6.2 == 8))))), (13, (ii v7.2)), (12, (.box [1005] 0)), (6, (.box [1003] 0)), (1, (.box [1001] 0)), (0, (bb false))]⟩, mkH [([1001], (.box (lOrderT v1.1))), ([1003], (.box (lOrderT v4.1))), ([1005], (.box (lOrderT v7.1)))]⟩) ?_ (fun r31 => ?_)
        ·refine G_op [0] (v := (bb (((b24 && (v5.1 == 18)) && (v6.2 == 8))))) (E_p (by kernel_rfl)) rfl rfl ?_
         refine G_pure (l := t38_8) (st := ⟨⟨110, [(91, (bb ((((b24 && (v5.1 == 18)) && (v6.2 == 8)) && (v7.2 == 0))))), (12, (.box [1005] 0)), (6, (.box [1003] 0)), (1, (.box [1001] 0)), (0, (bb false))]⟩, mkH [([1001], (.box (lOrderT v1.1))), ([1003], (.box (lOrderT v4.1))), ([1005], (.box (lOrderT v7.1)))]⟩) ?_ (fun r34 => ?_)
         ·refine G_op [0] (v := (bb ((((b24 && (v5.1 == 18)) && (v6.2 == 8)) && (v7.2 == 0))))) (E_p (by kernel_rfl)) rfl rfl ?_
          refine G_pure (l := t38_9) (st := ⟨⟨110, [(95, (bb (((((b24 && (v5.1 == 18)) && (v6.2 == 8)) && (v7.2 == 0)) && v7.1.Asked)))), (12, (.box [1005] 0)), (6, (.box [1003] 0)), (1, (.box [1001] 0)), (0, (bb false))]⟩, mkH [([1001], (.box (lOrderT v1.1))), ([1003], (.box (lOrderT v4.1))), ([1005], (.box (lOrderT v7.1)))]⟩) ?_ (fun r37 => ?_)
          ·refine G_op [0] (v := (bb (((((b24 && (v5.1 == 18)) && (v6.2 == 8)) && (v7.2 == 0)) && v7.1.Asked)))) (E_p (by kernel_rfl)) rfl rfl ?_
           refine G_pure (l := t38_10) (st := ⟨⟨110, [(100, (bb ((((((b24 && (v5.1 == 18)) && (v6.2 == 8)) && (v7.2 == 0)) && v7.1.Asked) && (v4.1.Version == 1))))), (12, (.box [1005] 0)), (1, (.box [1001] 0)), (0, (bb false))]⟩, mkH [([1001], (.box (lOrderT v1.1))), ([1005], (.box (lOrderT v7.1)))]⟩) ?_ (fun r40 => ?_)
           ·refine G_op [0] (v := (bb ((((((b24 && (v5.1 == 18)) && (v6.2 == 8)) && (v7.2 == 0)) && v7.1.Asked) && (v4.1.Version == 1))))) (E_p (by kernel_rfl)) rfl rfl ?_
            refine G_joinR (l := t38_11) (st := fun (b42 : Bool) => ⟨⟨110, [(104, (bb b42)), (1, (.box [1001] 0)), (0, (bb false))]⟩, mkH [([1001], (.box (lOrderT v1.1)))]⟩) (fun b42 => ?_) (fun r43 hr43 => ?_)
            ·refine G_op [0] (v := (bb b42)) (E_p (by kernel_rfl)) rfl rfl ?_
             refine G_pure (l := t38_12) (st := ⟨⟨110, [(109, (bb ((b42 && (v1.1.Phase == 1))))), (0, (bb false))]⟩, mkH []⟩) ?_ (fun r46 => ?_)
             ·refine G_op [0] (v := (bb ((b42 && (v1.1.Phase == 1))))) (E_p (by kernel_rfl)) rfl rfl ?_
              refine G_nil ?_
              refine G_then ?_
              refine G_ret ?_
              refine G_retR ?_
              refine q_some fun hA => ?_
              show outV _ _ = some _
              kernel_rfl
             ·refine q_two b42 (fun h44 => ?_) (fun h44 => ?_)
              ·refine G_subR (Sub_lit (t := 105) (v := true) rfl h44) ?_
               refine G_op [0] (v := (.box [1001] 7)) (E_p (by kernel_rfl)) rfl rfl ?_
               refine G_op [0] (v := (ii v1.1.Phase)) (E_load (by kernel_rfl)) rfl rfl ?_
               refine G_op [0] (v := (bb ((v1.1.Phase == 1)))) (E_p (by kernel_rfl)) rfl rfl ?_
               refine G_op [0] (v := (bb ((v1.1.Phase == 1)))) (E_p (by kernel_rfl)) rfl rfl ?_
               exact q_some fun h => RP_sub (by exact Sub_keep ⟨(Wk_and1 h44), .refl _, trivial⟩ trivial (by kernel_rfl) (by kernel_rfl)) h
              ·refine G_subR (Sub_lit (t := 105) (v := false) rfl h44) ?_
               refine G_off rfl rfl ?_
               refine G_off rfl rfl ?_
               refine G_off rfl rfl ?_
               refine G_op [0] (v := (bb false)) (E_p (by kernel_rfl)) rfl rfl ?_
               exact q_some fun h => RP_sub (by exact Sub_keep ⟨(Wk_and0 h44), .refl _, trivial⟩ trivial (by kernel_rfl) (by kernel_rfl)) h
            ·refine q_bif (fun h41 => ?_) (fun h41 => ?_)
             ·refine G_subR (Sub_lit (t := 101) (v := true) rfl h41) ?_
              refine G_op [0] (v := (.agg (lOrderT v7.1))) (E_load (by kernel_rfl)) rfl rfl ?_
              refine q_bind fun v47 hv47 => ?_
              refine G_op [0] (v := (bb v47)) (E_call (ds := [.agg (e_OrderT v7.1)]) (r := .bool v47) hc41 (by kernel_rfl) ((hs41 v7.1 _ (by kernel_rfl)).trans (congrArg _ hv47))) rfl rfl ?_
              refine G_op [0] (v := (bb v47)) (E_p (by kernel_rfl)) rfl rfl ?_
              exact q_some fun h => RP_sub (by exact Sub_keep ⟨.refl _, .refl _, .refl _, trivial⟩ ⟨⟨_, (by kernel_rfl), .refl _⟩, trivial⟩ (by kernel_rfl) (by kernel_rfl)) h
             ·refine G_subR (Sub_lit (t := 101) (v := false) rfl h41) ?_
              refine G_off rfl rfl ?_
              refine G_off rfl rfl ?_
              refine G_op [0] (v := (bb false)) (E_p (by kernel_rfl)) rfl rfl ?_
              exact q_some fun h => RP_sub (by exact Sub_keep ⟨.refl _, .refl _, .refl _, trivial⟩ ⟨⟨_, (by kernel_rfl), .refl _⟩, trivial⟩ (by kernel_rfl) (by kernel_rfl)) h
           ·refine q_two ((((b24 && (v5.1 == 18)) && (v6.2 == 8)) && (v7.2 == 0)) && v7.1.Asked) (fun h38 => ?_) (fun h38 => ?_)
            ·refine G_subR (Sub_lit (t := 96) (v := true) rfl h38) ?_
             refine G_op [0] (v := (.box [1003] 10)) (E_p (by kernel_rfl)) rfl rfl ?_
             refine G_op [0] (v := (ii v4.1.Version)) (E_load (by kernel_rfl)) rfl rfl ?_
             refine G_op [0] (v := (bb ((v4.1.Version == 1)))) (E_p (by kernel_rfl)) rfl rfl ?_
             refine G_op [0] (v := (bb ((v4.1.Version == 1)))) (E_p (by kernel_rfl)) rfl rfl ?_
             exact q_some fun h => RP_sub (by exact Sub_keep ⟨(Wk_and1 h38), .refl _, .refl _, .refl _, trivial⟩ ⟨⟨_, (by kernel_rfl), .refl _⟩, ⟨_, (by kernel_rfl), .refl _⟩, trivial⟩ (by kernel_rfl) (by kernel_rfl)) h
            ·refine G_subR (Sub_lit (t := 96) (v := false) rfl h38) ?_
             refine G_off rfl rfl ?_
             refine G_off rfl rfl ?_
             refine G_off rfl rfl ?_
             refine G_op [0] (v := (bb false)) (E_p (by kernel_rfl)) rfl rfl ?_
             exact q_some fun h => RP_sub (by exact Sub_keep ⟨(Wk_and0 h38), .refl _, .refl _, .refl _, trivial⟩ ⟨⟨_, (by kernel_rfl), .refl _⟩, ⟨_, (by kernel_rfl), .refl _⟩, trivial⟩ (by kernel_rfl) (by kernel_rfl)) h
          ·refine q_two (((b24 && (v5.1 == 18)) && (v6.2 == 8)) && (v7.2 == 0)) (fun h35 => ?_) (fun h35 => ?_)
           ·refine G_subR (Sub_lit (t := 92) (v := true) rfl h35) ?_
            refine G_op [0] (v := (.box [1005] 11)) (E_p (by kernel_rfl)) rfl rfl ?_
            refine G_op [0] (v := (bb v7.1.Asked)) (E_load (by kernel_rfl)) rfl rfl ?_
            refine G_op [0] (v := (bb v7.1.Asked)) (E_p (by kernel_rfl)) rfl rfl ?_
            exact q_some fun h => RP_sub (by exact Sub_env ⟨(Wk_and1 h35), .refl _, .refl _, .refl _, .refl _, trivial⟩) h
           ·refine G_subR (Sub_lit (t := 92) (v := false) rfl h35) ?_
            refine G_off rfl rfl ?_
            refine G_off rfl rfl ?_
            refine G_op [0] (v := (bb false)) (E_p (by kernel_rfl)) rfl rfl ?_
            exact q_some fun h => RP_sub (by exact Sub_env ⟨(Wk_and0 h35), .refl _, .refl _, .refl _, .refl _, trivial⟩) h
         ·refine q_two ((b24 && (v5.1 == 18)) && (v6.2 == 8)) (fun h32 => ?_) (fun h32 => ?_)
          ·refine G_subR (Sub_lit (t := 88) (v := true) rfl h32) ?_
           refine G_op [0] (v := (ii v7.2)) (E_p (by kernel_rfl)) rfl rfl ?_
           refine G_op [0] (v := (bb ((v7.2 == 0)))) (E_p (by kernel_rfl)) rfl rfl ?_
           refine G_op [0] (v := (bb ((v7.2 == 0)))) (E_p (by kernel_rfl)) rfl rfl ?_
           exact q_some fun h => RP_sub (by exact Sub_env ⟨(Wk_and1 h32), .refl _, .refl _, .refl _, .refl _, trivial⟩) h
          ·refine G_subR (Sub_lit (t := 88) (v := false) rfl h32) ?_
           refine G_off rfl rfl ?_
           refine G_off rfl rfl ?_
           refine G_op [0] (v := (bb false)) (E_p (by kernel_rfl)) rfl rfl ?_
           exact q_some fun h => RP_sub (by exact Sub_env ⟨(Wk_and0 h32), .refl _, .refl _, .refl _, .refl _, trivial⟩) h
        ·refine q_two (b24 && (v5.1 == 18)) (fun h29 => ?_) (fun h29 => ?_)
         ·refine G_subR (Sub_lit (t := 84) (v := true) rfl h29) ?_
          refine G_op [0] (v := (ii v6.2)) (E_p (by kernel_rfl)) rfl rfl ?_
          refine G_op [0] (v := (bb ((v6.2 == 8)))) (E_p (by kernel_rfl)) rfl rfl ?_
          refine G_op [0] (v := (bb ((v6.2 == 8)))) (E_p (by kernel_rfl)) rfl rfl ?_
          exact q_some fun h => RP_sub (by exact Sub_env ⟨(Wk_and1 h29), .refl _, .refl _, .refl _, .refl _, .refl _, trivial⟩) h
         ·refine G_subR (Sub_lit (t := 84) (v := false) rfl h29) ?_
          refine G_off rfl rfl ?_
          refine G_off rfl rfl ?_
          refine G_op [0] (v := (bb false)) (E_p (by kernel_rfl)) rfl rfl ?_
          exact q_some fun h => RP_sub (by exact Sub_env ⟨(Wk_and0 h29), .refl _, .refl _, .refl _, .refl _, .refl _, trivial⟩) h
       ·refine q_two b24 (fun h26 => ?_) (fun h26 => ?_)
        ·refine G_subR (Sub_lit (t := 80) (v := true) rfl h26) ?_
         refine G_op [0] (v := (ii v5.1)) (E_p (by kernel_rfl)) rfl rfl ?_
         refine G_op [0] (v := (bb ((v5.1 == 18)))) (E_p (by kernel_rfl)) rfl rfl ?_
         refine G_op [0] (v := (bb ((v5.1 == 18)))) (E_p (by kernel_rfl)) rfl rfl ?_
         exact q_some fun h => RP_sub (by exact Sub_env ⟨(Wk_and1 h26), .refl _, .refl _, .refl _, .refl _, .refl _, .refl _, trivial⟩) h
        ·refine G_subR (Sub_lit (t := 80) (v := false) rfl h26) ?_
         refine G_off rfl rfl ?_
         refine G_off rfl rfl ?_
         refine G_op [0] (v := (bb false)) (E_p (by kernel_rfl)) rfl rfl ?_
         exact q_some fun h => RP_sub (by exact Sub_env ⟨(Wk_and0 h26), .refl _, .refl _, .refl _, .refl _, .refl _, .refl _, trivial⟩) h
      ·refine q_bif (fun h23 => ?_) (fun h23 => ?_)
       ·refine G_subR (Sub_lit (t := 75) (v := true) rfl h23) ?_
        refine G_op [0] (v := (.agg (lOrderT v4.1))) (E_load (by kernel_rfl)) rfl rfl ?_
        refine q_bind fun v48 hv48 => ?_
        refine G_op [0] (v := (ii v48)) (E_call (ds := [.agg (e_OrderT v4.1)]) (r := .int .i64 v48) hc37 (by kernel_rfl) ((hs37 v4.1 _ (by kernel_rfl)).trans (congrArg _ hv48))) rfl rfl ?_
        refine G_op [0] (v := (bb ((v48 == 8)))) (E_p (by kernel_rfl)) rfl rfl ?_
        refine G_op [0] (v := (bb ((v48 == 8)))) (E_p (by kernel_rfl)) rfl rfl ?_
        exact q_some fun h => RP_sub (by exact Sub_env ⟨.refl _, .refl _, .refl _, .refl _, .refl _, .refl _, .refl _, .refl _, trivial⟩) h
       ·refine G_subR (Sub_lit (t := 75) (v := false) rfl h23) ?_
        refine G_off rfl rfl ?_
        refine G_off rfl rfl ?_
        refine G_off rfl rfl ?_
        refine G_op [0] (v := (bb false)) (E_p (by kernel_rfl)) rfl rfl ?_
        exact q_some fun h => RP_sub (by exact Sub_env ⟨.refl _, .refl _, .refl _, .refl _, .refl _, .refl _, .refl _, .refl _, trivial⟩) h
     ·refine q_bif (fun h20 => ?_) (fun h20 => ?_)
      ·refine G_subR (Sub_lit (t := 70) (v := true) rfl h20) ?_
       refine G_op [0] (v := (.agg (lOrderT v3.1))) (E_load (by kernel_rfl)) rfl rfl ?_
       refine q_bind fun v49 hv49 => ?_
       refine G_op [0] (v := (ii v49)) (E_call (ds := [.agg (e_OrderT v3.1)]) (r := .int .i64 v49) hc37 (by kernel_rfl) ((hs37 v3.1 _ (by kernel_rfl)).trans (congrArg _ hv49))) rfl rfl ?_
       refine G_op [0] (v := (bb ((v49 == 6)))) (E_p (by kernel_rfl)) rfl rfl ?_
       refine G_op [0] (v := (bb ((v49 == 6)))) (E_p (by kernel_rfl)) rfl rfl ?_
       exact q_some fun h => RP_sub (by exact Sub_keep ⟨.refl _, .refl _, .refl _, .refl _, .refl _, .refl _, .refl _, .refl _, trivial⟩ ⟨⟨_, (by kernel_rfl), .refl _⟩, ⟨_, (by kernel_rfl), .refl _⟩, ⟨_, (by kernel_rfl), .refl _⟩, trivial⟩ (by kernel_rfl) (by kernel_rfl)) h
      ·refine G_subR (Sub_lit (t := 70) (v := false) rfl h20) ?_
       refine G_off rfl rfl ?_
       refine G_off rfl rfl ?_
       refine G_off rfl rfl ?_
       refine G_op [0] (v := (bb false)) (E_p (by kernel_rfl)) rfl rfl ?_
       exact q_some fun h => RP_sub (by exact Sub_keep ⟨.refl _, .refl _, .refl _, .refl _, .refl _, .refl _, .refl _, .refl _, trivial⟩ ⟨⟨_, (by kernel_rfl), .refl _⟩, ⟨_, (by kernel_rfl), .refl _⟩, ⟨_, (by kernel_rfl), .refl _⟩, trivial⟩ (by kernel_rfl) (by kernel_rfl)) h
    ·refine q_two ((((v1.2 == 0) && (v2.2 == 0)) && (v3.2 == 0)) && (v4.2 == 0)) (fun h17 => ?_) (fun h17 => ?_)
     ·refine G_subR (Sub_lit (t := 66) (v := true) rfl h17) ?_
      refine G_op [0] (v := (ii v5.2)) (E_p (by kernel_rfl)) rfl rfl ?_
      refine G_op [0] (v := (bb ((v5.2 == 0)))) (E_p (by kernel_rfl)) rfl rfl ?_
      refine G_op [0] (v := (bb ((v5.2 == 0)))) (E_p (by kernel_rfl)) rfl rfl ?_
      exact q_some fun h => RP_sub (by exact Sub_env ⟨(Wk_and1 h17), .refl _, .refl _, .refl _, .refl _, .refl _, .refl _, .refl _, .refl _, trivial⟩) h
     ·refine G_subR (Sub_lit (t := 66) (v := false) rfl h17) ?_
      refine G_off rfl rfl ?_
      refine G_off rfl rfl ?_
      refine G_op [0] (v := (bb false)) (E_p (by kernel_rfl)) rfl rfl ?_
      exact q_some fun h => RP_sub (by exact Sub_env ⟨(Wk_and0 h17), .refl _, .refl _, .refl _, .refl _, .refl _, .refl _, .refl _, .refl _, trivial⟩) h
   ·refine q_two (((v1.2 == 0) && (v2.2 == 0)) && (v3.2 == 0)) (fun h14 => ?_) (fun h14 => ?_)
    ·refine G_subR (Sub_lit (t := 62) (v := true) rfl h14) ?_
     refine G_op [0] (v := (ii v4.2)) (E_p (by kernel_rfl)) rfl rfl ?_
     refine G_op [0] (v := (bb ((v4.2 == 0)))) (E_p (by kernel_rfl)) rfl rfl ?_
     refine G_op [0] (v := (bb ((v4.2 == 0)))) (E_p (by kernel_rfl)) rfl rfl ?_
     exact q_some fun h => RP_sub (by exact Sub_env ⟨(Wk_and1 h14), .refl _, .refl _, .refl _, .refl _, .refl _, .refl _, .refl _, .refl _, .refl _, trivial⟩) h
    ·refine G_subR (Sub_lit (t := 62) (v := false) rfl h14) ?_
     refine G_off rfl rfl ?_
     refine G_off rfl rfl ?_
     refine G_op [0] (v := (bb false)) (E_p (by kernel_rfl)) rfl rfl ?_
     exact q_some fun h => RP_sub (by exact Sub_env ⟨(Wk_and0 h14), .refl _, .refl _, .refl _, .refl _, .refl _, .refl _, .refl _, .refl _, .refl _, trivial⟩) h
  ·refine q_two ((v1.2 == 0) && (v2.2 == 0)) (fun h11 => ?_) (fun h11 => ?_)
   ·refine G_subR (Sub_lit (t := 58) (v := true) rfl h11) ?_
    refine G_op [0] (v := (ii v3.2)) (E_p (by kernel_rfl)) rfl rfl ?_
    refine G_op [0] (v := (bb ((v3.2 == 0)))) (E_p (by kernel_rfl)) rfl rfl ?_
    refine G_op [0] (v := (bb ((v3.2 == 0)))) (E_p (by kernel_rfl)) rfl rfl ?_
    exact q_some fun h => RP_sub (by exact Sub_env ⟨(Wk_and1 h11), .refl _, .refl _, .refl _, .refl _, .refl _, .refl _, .refl _, .refl _, .refl _, .refl _, trivial⟩) h
   ·refine G_subR (Sub_lit (t := 58) (v := false) rfl h11) ?_
    refine G_off rfl rfl ?_
    refine G_off rfl rfl ?_
    refine G_op [0] (v := (bb false)) (E_p (by kernel_rfl)) rfl rfl ?_
    exact q_some fun h => RP_sub (by exact Sub_env ⟨(Wk_and0 h11), .refl _, .refl _, .refl _, .refl _, .refl _, .refl _, .refl _, .refl _, .refl _, .refl _, trivial⟩) h
 ·refine q_two (v1.2 == 0) (fun h8 => ?_) (fun h8 => ?_)
  ·refine G_subR (Sub_lit (t := 54) (v := true) rfl h8) ?_
   refine G_op [0] (v := (ii v2.2)) (E_p (by kernel_rfl)) rfl rfl ?_
   refine G_op [0] (v := (bb ((v2.2 == 0)))) (E_p (by kernel_rfl)) rfl rfl ?_
   refine G_op [0] (v := (bb ((v2.2 == 0)))) (E_p (by kernel_rfl)) rfl rfl ?_
   exact q_some fun h => RP_sub (by exact Sub_env ⟨(Wk_and1 h8), .refl _, .refl _, .refl _, .refl _, .refl _, .refl _, .refl _, .refl _, .refl _, .refl _, .refl _, trivial⟩) h
  ·refine G_subR (Sub_lit (t := 54) (v := false) rfl h8) ?_
   refine G_off rfl rfl ?_
   refine G_off rfl rfl ?_
   refine G_op [0] (v := (bb false)) (E_p (by kernel_rfl)) rfl rfl ?_
   exact q_some fun h => RP_sub (by exact Sub_env ⟨(Wk_and0 h8), .refl _, .refl _, .refl _, .refl _, .refl _, .refl _, .refl _, .refl _, .refl _, .refl _, .refl _, trivial⟩) h
theorem s38 (ds : List DV) (hd : List.map z1 ds = List.map z1 []) : sp38 ds = (g_snafflelaw07_awake).map fun r => .bool r :=
 specT_at (ea := fun (_ : Unit) => []) (eb := fun (r : Bool) => .bool r) (g := fun (_ : Unit) => g_snafflelaw07_awake) inj38 () hd

def t84_0 : List AIns := (⟨(some 2), (.p (.mv (.t 8))), none⟩ :: [])
def k84_0 : ACode := (.region (⟨(some 3), (.p (.mv (.t 0))), none⟩ :: ⟨(some 4), (.p (.bin .gtr (.t 3) (.c (.int .i64 0)))), none⟩ :: ⟨(some 5), (.p (.mv (.t 4))), none⟩ :: ⟨(some 6), (.p (.mv (.t 0))), (some (5, true))⟩ :: ⟨(some 7), (.p (.bin .leq (.t 6) (.c (.int .i64 1000000000000)))), (some (5, true))⟩ :: ⟨(some 8), (.p (.pick (.t 5) (.t 7) (.c (.bool false)))), none⟩ :: t84_0))
def k84_1 : ACode := (.seq k84_0 .ret)
def cd84 : ACode := (.seq (.region (⟨(some 2), (.p (.mv (.c (.bool false)))), none⟩ :: [])) k84_1)
def rs84 : List ARes := [(.tmp 2)]
def af84 : AFn := ⟨cd84, rs84, 9⟩
theorem c84 : compF Try.prog 84 = some af84 := by kernel_rfl
noncomputable def g_snaffleref06_id (p_n : Int) : Option Bool := (some ((decide (p_n > 0)) && (decide (p_n ≤ 1000000000000))))
noncomputable def sp84 : List DV → Option DV := specT (fun (a : Int) => [.int .i64 a]) (fun (r : Bool) => .bool r) (fun (a : Int) => g_snaffleref06_id a)
theorem inj84 : ∀ (a b : Int), List.map z1 ((fun (a : Int) => [.int .i64 a]) a) = List.map z1 ((fun (a : Int) => [.int .i64 a]) b) → a = b := by
 intro a0 b0 h
 simp only [List.map_cons, List.map_nil, List.cons.injEq, and_true] at h
 exact (DV.int.inj h).2
set_option maxHeartbeats 1000000 in
theorem w84 {C : FuncId → Con} (hC : ConOk Try.prog C) : ValOk Try.prog 84 sp84 := by
 refine valT_of hC c84 _ _ _ inj84 ?_
 intro p_n
 show Imq (g_snaffleref06_id p_n) (fun _ => True) fun r => WP Try.prog C (fun _ => False) cd84 (retQ fun s => outV s rs84 = some (.bool r)) ⟨⟨9, [(0, (ii p_n))]⟩, mkH []⟩
 unfold g_snaffleref06_id
 refine G_seq ?_
 refine G_region ?_
 refine G_op [0] (v := (bb false)) (E_p (by kernel_rfl)) rfl rfl ?_
 refine G_nil ?_
 refine G_then ?_
 refine G_seq ?_
 refine G_region ?_
 refine G_op [0] (v := (ii p_n)) (E_p (by kernel_rfl)) rfl rfl ?_
 refine G_op [0] (v := (bb ((decide (p_n > 0))))) (E_p (by kernel_rfl)) rfl rfl ?_
 refine G_op [0] (v := (bb ((decide (p_n > 0))))) (E_p (by kernel_rfl)) rfl rfl ?_
 refine G_pure (l := t84_0) (st := ⟨⟨9, [(8, (bb (((decide (p_n > 0)) && (decide (p_n ≤ 1000000000000)))))), (2, (bb false))]⟩, mkH []⟩) ?_ (fun r3 => ?_)
 ·refine G_op [0] (v := (bb (((decide (p_n > 0)) && (decide (p_n ≤ 1000000000000)))))) (E_p (by kernel_rfl)) rfl rfl ?_
  refine G_nil ?_
  refine G_then ?_
  refine G_ret ?_
  refine G_retR ?_
  refine q_some fun hA => ?_
  show outV _ _ = some _
  kernel_rfl
 ·refine q_two (decide (p_n > 0)) (fun h1 => ?_) (fun h1 => ?_)
  ·refine G_subR (Sub_lit (t := 5) (v := true) rfl h1) ?_
   refine G_op [0] (v := (ii p_n)) (E_p (by kernel_rfl)) rfl rfl ?_
   refine G_op [0] (v := (bb ((decide (p_n ≤ 1000000000000))))) (E_p (by kernel_rfl)) rfl rfl ?_
   refine G_op [0] (v := (bb ((decide (p_n ≤ 1000000000000))))) (E_p (by kernel_rfl)) rfl rfl ?_
   exact q_some fun h => RP_sub (by exact Sub_env ⟨(Wk_and1 h1), .refl _, trivial⟩) h
  ·refine G_subR (Sub_lit (t := 5) (v := false) rfl h1) ?_
   refine G_off rfl rfl ?_
   refine G_off rfl rfl ?_
   refine G_op [0] (v := (bb false)) (E_p (by kernel_rfl)) rfl rfl ?_
   exact q_some fun h => RP_sub (by exact Sub_env ⟨(Wk_and0 h1), .refl _, trivial⟩) h
theorem s84 (x0 : Int) (ds : List DV) (hd : List.map z1 ds = List.map z1 [.int .i64 x0]) : sp84 ds = (g_snaffleref06_id x0).map fun r => .bool r :=
 specT_at (ea := fun (a : Int) => [.int .i64 a]) (eb := fun (r : Bool) => .bool r) (g := fun (a : Int) => g_snaffleref06_id a) inj84 x0 hd
end Go.AI
