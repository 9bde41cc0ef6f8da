import Derived.Test.YtpolaeonmmolnaaLc
namespace Go.AI
open Go.Proofs
set_option linter.unusedVariables false
set_option linter.unusedSimpArgs false
def t13_1 : List AIns := (⟨(some 2), (.p (.mv (.t 32))), none⟩ :: [])
def t13_0 : List AIns := (⟨(some 32), (.p (.pick (.t 23) (.t 31) (.c (.bool false)))), none⟩ :: t13_1)
def k13_0 : ACode := (.seq (.region (⟨(some 11), (.r (.call 38 [])), none⟩ :: ⟨(some 12), (.p (.un .not (.t 11))), none⟩ :: [])) (.cond (.t 12) (.seq (.region (⟨(some 2), (.p (.mv (.c (.bool false)))), none⟩ :: [])) .ret) .skip))
def k13_1 : ACode := (.region (⟨(some 14), (.r (.load 13 true (.t 1))), none⟩ :: ⟨(some 15), (.r (.call 39 [(.t 14)])), none⟩ :: ⟨(some 13), (.p (.mv (.t 15))), none⟩ :: ⟨(some 16), (.p (.ext (.t 13) 0)), none⟩ :: ⟨(some 17), (.p (.ext (.t 13) 1)), none⟩ :: ⟨(some 3), (.a (.alloc [(.int .i64 0), (.int .i64 0), (.int .i64 0), (.int .i64 0), (.int .i64 0), (.int .i64 0), (.int .i64 0), (.int .i64 0), (.int .i64 0), (.int .i64 0), (.int .i64 0), (.bool false)])), none⟩ :: ⟨none, (.w (.store 12 (.t 3) (.t 16))), none⟩ :: ⟨(some 4), (.p (.mv (.t 17))), none⟩ :: []))
def k13_2 : ACode := (.region (⟨(some 20), (.r (.load 12 true (.t 3))), none⟩ :: ⟨(some 21), (.p (.build [(.int .i64 0), (.int .i64 0), (.int .i64 0), (.int .i64 0), (.int .i64 0), (.int .i64 0), (.int .i64 0), (.int .i64 0), (.int .i64 0), (.int .i64 0), (.int .i64 0), (.bool false)] [])), none⟩ :: ⟨(some 22), (.p (.eqs [1, 1, 1, 1, 1, 1, 1, 1, 1, 1, 1, 0] false (.t 20) (.t 21))), none⟩ :: ⟨(some 23), (.p (.mv (.t 22))), none⟩ :: ⟨(some 24), (.p (.foff 0 (.t 1))), (some (23, true))⟩ :: ⟨(some 25), (.r (.load 1 false (.t 24))), (some (23, true))⟩ :: ⟨(some 26), (.p (.bin .neq (.t 25) (.c (.int .i64 1)))), (some (23, true))⟩ :: ⟨(some 27), (.p (.mv (.t 26))), (some (23, true))⟩ :: ⟨(some 28), (.r (.load 13 true (.t 1))), (some (27, false))⟩ :: ⟨(some 29), (.r (.call 52 [(.t 28)])), (some (27, false))⟩ :: ⟨(some 30), (.p (.un .not (.t 29))), (some (27, false))⟩ :: ⟨(some 31), (.p (.pick (.t 27) (.c (.bool true)) (.t 30))), (some (23, true))⟩ :: t13_0))
def k13_3 : ACode := (.seq k13_2 .ret)
def k13_4 : ACode := (.cond (.t 19) k13_3 .skip)
def k13_5 : ACode := (.seq (.region (⟨(some 18), (.p (.mv (.t 4))), none⟩ :: ⟨(some 19), (.p (.bin .neq (.t 18) (.c (.int .i64 0)))), none⟩ :: [])) k13_4)
def k13_6 : ACode := (.region (⟨(some 34), (.r (.load 12 true (.t 3))), none⟩ :: ⟨(some 35), (.p (.foff 1 (.t 1))), none⟩ :: ⟨(some 36), (.r (.load 1 false (.t 35))), none⟩ :: ⟨(some 37), (.p (.build [(.int .i64 0), (.int .i64 0), (.int .i64 0), (.int .i64 0), (.int .i64 0)] [(0, (1, (.c (.int .i64 1)))), (1, (1, (.c (.int .i64 2)))), (2, (1, (.t 36)))])), none⟩ :: ⟨(some 38), (.r (.call 43 [(.t 34), (.t 37)])), none⟩ :: ⟨(some 33), (.p (.mv (.t 38))), none⟩ :: ⟨(some 39), (.p (.ext (.t 33) 0)), none⟩ :: ⟨(some 40), (.p (.ext (.t 33) 1)), none⟩ :: ⟨(some 5), (.a (.alloc [(.int .i64 0), (.int .i64 0), (.int .i64 0), (.int .i64 0), (.int .i64 0), (.int .i64 0), (.int .i64 0), (.int .i64 0), (.int .i64 0), (.int .i64 0), (.int .i64 0), (.bool false)])), none⟩ :: ⟨none, (.w (.store 12 (.t 5) (.t 39))), none⟩ :: ⟨(some 6), (.p (.mv (.t 40))), none⟩ :: []))
def k13_7 : ACode := (.region (⟨(some 42), (.r (.load 12 true (.t 3))), none⟩ :: ⟨(some 43), (.p (.foff 1 (.t 1))), none⟩ :: ⟨(some 44), (.r (.load 1 false (.t 43))), none⟩ :: ⟨(some 45), (.p (.build [(.int .i64 0), (.int .i64 0), (.int .i64 0), (.int .i64 0), (.int .i64 0)] [(0, (1, (.c (.int .i64 1)))), (1, (1, (.c (.int .i64 1)))), (2, (1, (.t 44)))])), none⟩ :: ⟨(some 46), (.r (.call 43 [(.t 42), (.t 45)])), none⟩ :: ⟨(some 41), (.p (.mv (.t 46))), none⟩ :: ⟨(some 47), (.p (.ext (.t 41) 0)), none⟩ :: ⟨(some 48), (.p (.ext (.t 41) 1)), none⟩ :: ⟨(some 7), (.a (.alloc [(.int .i64 0), (.int .i64 0), (.int .i64 0), (.int .i64 0), (.int .i64 0), (.int .i64 0), (.int .i64 0), (.int .i64 0), (.int .i64 0), (.int .i64 0), (.int .i64 0), (.bool false)])), none⟩ :: ⟨none, (.w (.store 12 (.t 7) (.t 47))), none⟩ :: ⟨(some 8), (.p (.mv (.t 48))), none⟩ :: []))
def k13_8 : ACode := (.region (⟨(some 50), (.r (.load 12 true (.t 7))), none⟩ :: ⟨(some 51), (.p (.foff 1 (.t 1))), none⟩ :: ⟨(some 52), (.r (.load 1 false (.t 51))), none⟩ :: ⟨(some 53), (.p (.build [(.int .i64 0), (.int .i64 0), (.int .i64 0), (.int .i64 0), (.int .i64 0)] [(0, (1, (.c (.int .i64 2)))), (1, (1, (.c (.int .i64 4)))), (2, (1, (.t 52)))])), none⟩ :: ⟨(some 54), (.r (.call 43 [(.t 50), (.t 53)])), none⟩ :: ⟨(some 49), (.p (.mv (.t 54))), none⟩ :: ⟨(some 55), (.p (.ext (.t 49) 0)), none⟩ :: ⟨(some 56), (.p (.ext (.t 49) 1)), none⟩ :: ⟨(some 9), (.a (.alloc [(.int .i64 0), (.int .i64 0), (.int .i64 0), (.int .i64 0), (.int .i64 0), (.int .i64 0), (.int .i64 0), (.int .i64 0), (.int .i64 0), (.int .i64 0), (.int .i64 0), (.bool false)])), none⟩ :: ⟨none, (.w (.store 12 (.t 9) (.t 55))), none⟩ :: ⟨(some 10), (.p (.mv (.t 56))), none⟩ :: []))
def k13_9 : ACode := (.draw (⟨(some 57), (.r (.load 12 true (.t 3))), none⟩ :: ⟨(some 58), (.r (.call 41 [(.t 57)])), none⟩ :: ⟨(some 59), (.p (.mv (.t 58))), none⟩ :: ⟨(some 60), (.p (.foff 7 (.t 3))), (some (59, true))⟩ :: ⟨(some 61), (.r (.load 1 false (.t 60))), (some (59, true))⟩ :: ⟨(some 62), (.p (.bin .eql (.t 61) (.c (.int .i64 1)))), (some (59, true))⟩ :: ⟨(some 63), (.p (.pick (.t 59) (.t 62) (.c (.bool false)))), none⟩ :: ⟨(some 64), (.p (.mv (.t 63))), none⟩ :: ⟨(some 65), (.r (.load 12 true (.t 3))), (some (64, true))⟩ :: ⟨(some 66), (.r (.call 37 [(.t 65)])), (some (64, true))⟩ :: ⟨(some 67), (.p (.foff 5 (.t 1))), (some (64, true))⟩ :: ⟨(some 68), (.r (.load 1 false (.t 67))), (some (64, true))⟩ :: ⟨(some 69), (.p (.bin .eql (.t 66) (.t 68))), (some (64, true))⟩ :: ⟨(some 70), (.p (.pick (.t 64) (.t 69) (.c (.bool false)))), none⟩ :: ⟨(some 71), (.p (.mv (.t 70))), none⟩ :: ⟨(some 72), (.p (.mv (.t 6))), (some (71, true))⟩ :: ⟨(some 73), (.p (.bin .eql (.t 72) (.c (.int .i64 0)))), (some (71, true))⟩ :: ⟨(some 74), (.p (.pick (.t 71) (.t 73) (.c (.bool false)))), none⟩ :: ⟨(some 75), (.p (.mv (.t 74))), none⟩ :: ⟨(some 76), (.p (.foff 7 (.t 5))), (some (75, true))⟩ :: ⟨(some 77), (.r (.load 1 false (.t 76))), (some (75, true))⟩ :: ⟨(some 78), (.p (.bin .eql (.t 77) (.c (.int .i64 3)))), (some (75, true))⟩ :: ⟨(some 79), (.p (.pick (.t 75) (.t 78) (.c (.bool false)))), none⟩ :: ⟨(some 80), (.p (.mv (.t 79))), none⟩ :: ⟨(some 81), (.r (.load 12 true (.t 5))), (some (80, true))⟩ :: ⟨(some 82), (.r (.call 37 [(.t 81)])), (some (80, true))⟩ :: ⟨(some 83), (.p (.bin .eql (.t 82) (.c (.int .i64 0)))), (some (80, true))⟩ :: ⟨(some 84), (.p (.pick (.t 80) (.t 83) (.c (.bool false)))), none⟩ :: ⟨(some 85), (.p (.mv (.t 84))), none⟩ :: ⟨(some 86), (.p (.mv (.t 8))), (some (85, true))⟩ :: ⟨(some 87), (.p (.bin .eql (.t 86) (.c (.int .i64 0)))), (some (85, true))⟩ :: ⟨(some 88), (.p (.pick (.t 85) (.t 87) (.c (.bool false)))), none⟩ :: ⟨(some 89), (.p (.mv (.t 88))), none⟩ :: ⟨(some 90), (.r (.load 12 true (.t 7))), (some (89, true))⟩ :: ⟨(some 91), (.r (.call 37 [(.t 90)])), (some (89, true))⟩ :: ⟨(some 92), (.p (.foff 5 (.t 1))), (some (89, true))⟩ :: ⟨(some 93), (.r (.load 1 false (.t 92))), (some (89, true))⟩ :: ⟨(some 94), (.p (.bin .eql (.t 91) (.t 93))), (some (89, true))⟩ :: ⟨(some 95), (.p (.pick (.t 89) (.t 94) (.c (.bool false)))), none⟩ :: ⟨(some 96), (.p (.mv (.t 95))), none⟩ :: ⟨(some 97), (.p (.mv (.t 10))), (some (96, true))⟩ :: ⟨(some 98), (.p (.bin .eql (.t 97) (.c (.int .i64 0)))), (some (96, true))⟩ :: ⟨(some 99), (.p (.pick (.t 96) (.t 98) (.c (.bool false)))), none⟩ :: ⟨(some 100), (.p (.mv (.t 99))), none⟩ :: ⟨(some 101), (.p (.foff 7 (.t 9))), (some (100, true))⟩ :: ⟨(some 102), (.r (.load 1 false (.t 101))), (some (100, true))⟩ :: ⟨(some 103), (.p (.bin .eql (.t 102) (.c (.int .i64 3)))), (some (100, true))⟩ :: ⟨(some 104), (.p (.pick (.t 100) (.t 103) (.c (.bool false)))), none⟩ :: ⟨(some 105), (.p (.mv (.t 104))), none⟩ :: ⟨(some 106), (.r (.load 12 true (.t 9))), (some (105, true))⟩ :: ⟨(some 107), (.r (.call 37 [(.t 106)])), (some (105, true))⟩ :: ⟨(some 108), (.p (.bin .eql (.t 107) (.c (.int .i64 0)))), (some (105, true))⟩ :: ⟨(some 109), (.p (.pick (.t 105) (.t 108) (.c (.bool false)))), none⟩ :: ⟨(some 2), (.p (.mv (.t 109))), none⟩ :: []))
def k13_10 : ACode := (.seq k13_9 .ret)
def k13_11 : ACode := (.seq k13_8 k13_10)
def k13_12 : ACode := (.seq k13_7 k13_11)
def k13_13 : ACode := (.seq k13_6 k13_12)
def k13_14 : ACode := (.seq k13_5 k13_13)
def k13_15 : ACode := (.seq k13_1 k13_14)
def k13_16 : ACode := (.seq k13_0 k13_15)
def cd13 : ACode := (.seq (.region (⟨(some 1), (.a (.bx (.t 0))), none⟩ :: ⟨(some 2), (.p (.mv (.c (.bool false)))), none⟩ :: [])) k13_16)
def rs13 : List ARes := [(.tmp 2)]
def af13 : AFn := ⟨cd13, rs13, 110⟩
theorem c13 : compF Try.prog 13 = some af13 := by kernel_rfl
noncomputable def g_snafflelaw07_OrderBegins (p_r : RecT) : Option Bool := (Option.bind (g_snafflelaw07_awake) fun v1 => (bif (!v1) then (some false) else (Option.bind (g_order_Begin p_r) fun v2 => (bif (v2.2 != 0) then (Option.bind (bif ((v2.1.Id == 0) && ((v2.1.Account == 0) && ((v2.1.Symbol == 0) && ((v2.1.Side == 0) && ((v2.1.Qty == 0) && ((v2.1.Price == 0) && ((v2.1.Filled == 0) && ((v2.1.Phase == 0) && ((v2.1.NewQty == 0) && ((v2.1.NewPrice == 0) && ((v2.1.Version == 0) && ((v2.1.Asked == false) && true)))))))))))) then (Option.bind (bif (p_r.Kind != 1) then (some true) else (Option.bind (g_rec_Right p_r) fun v9 => (some (!v9)))) fun (b7 : Bool) => (some b7)) else (some false)) fun (b4 : Bool) => (some b4)) else (Option.bind (g_order_Take v2.1 (NoteT.mk 1 2 p_r.Order 0 0)) fun v10 => (Option.bind (g_order_Take v2.1 (NoteT.mk 1 1 p_r.Order 0 0)) fun v11 => (Option.bind (g_order_Take v11.1 (NoteT.mk 2 4 p_r.Order 0 0)) fun v12 => (Option.bind ((Option.bind (g_order_Right v2.1) fun v15 => (bif v15 then (bif (v2.1.Phase == 1) then (Option.bind (g_order_Open v2.1) fun v18 => (bif (v18 == p_r.Qty) then (bif (v10.2 == 0) then (bif (v10.1.Phase == 3) then (Option.bind (g_order_Open v10.1) fun v22 => (bif (v22 == 0) then (bif (v11.2 == 0) then (Option.bind (g_order_Open v11.1) fun v25 => (bif (v25 == p_r.Qty) then (bif (v12.2 == 0) then (bif (v12.1.Phase == 3) then (Option.bind (g_order_Open v12.1) fun v29 => (some (v29 == 0))) else (some false)) else (some false)) else (some false))) else (some false)) else (some false))) else (some false)) else (some false)) else (some false))) else (some false)) else (some false))) : Option (Bool)) (fun (j13 : Bool) => (some j13))))))))))
noncomputable def sp13 : List DV → Option DV := specT (fun (a : RecT) => [.agg (e_RecT a)]) (fun (r : Bool) => .bool r) (fun (a : RecT) => g_snafflelaw07_OrderBegins a)
theorem inj13 : ∀ (a b : RecT), List.map z1 ((fun (a : RecT) => [.agg (e_RecT a)]) a) = List.map z1 ((fun (a : RecT) => [.agg (e_RecT a)]) b) → a = b := by
  intro a0 b0 h
  simp only [List.map_cons, List.map_nil, List.cons.injEq, and_true] at h
  exact (e_RecT_inj (DV.agg.inj h))
set_option maxHeartbeats 1000000 in
theorem w13 {C : FuncId → Con} (hC : ConOk Try.prog C) {q38 : List DV → Option DV} (hc38 : C 38 = .val q38) (hs38 : ∀ (ds : List DV), List.map z1 ds = List.map z1 [] → q38 ds = (g_snafflelaw07_awake).map fun r => .bool r) {q39 : List DV → Option DV} (hc39 : C 39 = .val q39) (hs39 : ∀ (x0 : RecT) (ds : List DV), List.map z1 ds = List.map z1 [.agg (e_RecT x0)] → q39 ds = (g_order_Begin x0).map fun r => .tup [.agg (e_OrderT r.1), .int .i64 r.2]) {q52 : List DV → Option DV} (hc52 : C 52 = .val q52) (hs52 : ∀ (x0 : RecT) (ds : List DV), List.map z1 ds = List.map z1 [.agg (e_RecT x0)] → q52 ds = (g_rec_Right x0).map fun r => .bool r) {q43 : List DV → Option DV} (hc43 : C 43 = .val q43) (hs43 : ∀ (x0 : OrderT) (x1 : NoteT) (ds : List DV), List.map z1 ds = List.map z1 [.agg (e_OrderT x0), .agg (e_NoteT x1)] → q43 ds = (g_order_Take x0 x1).map fun r => .tup [.agg (e_OrderT r.1), .int .i64 r.2]) {q41 : List DV → Option DV} (hc41 : C 41 = .val q41) (hs41 : ∀ (x0 : OrderT) (ds : List DV), List.map z1 ds = List.map z1 [.agg (e_OrderT x0)] → q41 ds = (g_order_Right x0).map fun r => .bool r) {q37 : List DV → Option DV} (hc37 : C 37 = .val q37) (hs37 : ∀ (x0 : OrderT) (ds : List DV), List.map z1 ds = List.map z1 [.agg (e_OrderT x0)] → q37 ds = (g_order_Open x0).map fun r => .int .i64 r) : ValOk Try.prog 13 sp13 := by
  refine valT_of hC c13 _ _ _ inj13 ?_
  intro p_r
  show Imq (g_snafflelaw07_OrderBegins p_r) (fun _ => True) fun r => WP Try.prog C (fun _ => False) cd13 (retQ fun s => outV s rs13 = some (.bool r)) ⟨⟨110, [(0, (.val (.agg [(.int .i64 p_r.Kind), (.int .i64 p_r.Order), (.int .i64 p_r.Account), (.int .i64 p_r.Symbol), (.int .i64 p_r.Side), (.int .i64 p_r.Qty), (.int .i64 p_r.Price), (.int .i64 p_r.Long), (.int .i64 p_r.Short), (.int .i64 p_r.Open), (.bool p_r.On), (.int .i64 p_r.Seq), (.int .i64 p_r.What)])))]⟩, mkH []⟩
  unfold g_snafflelaw07_OrderBegins
  refine G_seq ?_
  refine G_region ?_
  refine G_op [1001] (v := (.box [1001] 0)) (E_a (u := (.box [1001] 0)) (b := (.box [(.val (.int .i64 p_r.Kind)), (.val (.int .i64 p_r.Order)), (.val (.int .i64 p_r.Account)), (.val (.int .i64 p_r.Symbol)), (.val (.int .i64 p_r.Side)), (.val (.int .i64 p_r.Qty)), (.val (.int .i64 p_r.Price)), (.val (.int .i64 p_r.Long)), (.val (.int .i64 p_r.Short)), (.val (.int .i64 p_r.Open)), (.val (.bool p_r.On)), (.val (.int .i64 p_r.Seq)), (.val (.int .i64 p_r.What))])) (h' := [([1001], (.box [(.val (.int .i64 p_r.Kind)), (.val (.int .i64 p_r.Order)), (.val (.int .i64 p_r.Account)), (.val (.int .i64 p_r.Symbol)), (.val (.int .i64 p_r.Side)), (.val (.int .i64 p_r.Qty)), (.val (.int .i64 p_r.Price)), (.val (.int .i64 p_r.Long)), (.val (.int .i64 p_r.Short)), (.val (.int .i64 p_r.Open)), (.val (.bool p_r.On)), (.val (.int .i64 p_r.Seq)), (.val (.int .i64 p_r.What))]))]) (by kernel_rfl) (by kernel_rfl) (by kernel_rfl)) rfl rfl ?_
  refine G_op [0] (v := (.val (.bool false))) (E_p (by kernel_rfl)) rfl rfl ?_
  refine G_nil ?_
  refine G_then ?_
  refine G_seq ?_
  refine G_seq ?_
  refine G_region ?_
  refine q_bind fun v1 hv1 => ?_
  refine G_op [0] (v := (.val (.bool v1))) (E_call (ds := []) (r := .bool v1) hc38 (by kernel_rfl) ((hs38 _ (by kernel_rfl)).trans (congrArg _ hv1))) rfl rfl ?_
  refine G_op [0] (v := (.val (.bool (!v1)))) (E_p (by kernel_rfl)) rfl rfl ?_
  refine G_nil ?_
  refine G_then ?_
  refine G_cond (t := (!v1)) (by kernel_rfl) (fun _ => ?_) (fun _ => ?_)
  · refine G_seq ?_
    refine G_region ?_
    refine G_op [0] (v := (.val (.bool false))) (E_p (by kernel_rfl)) rfl rfl ?_
    refine G_nil ?_
    refine G_then ?_
    refine G_ret ?_
    refine G_thenR ?_
    refine G_retR ?_
    refine q_some fun hA => ?_
    show outV _ _ = some _
    kernel_rfl
  · refine G_skip ?_
    refine G_then ?_
    refine G_seq ?_
    refine G_region ?_
    refine G_op [0] (v := (.agg [(.val (.int .i64 p_r.Kind)), (.val (.int .i64 p_r.Order)), (.val (.int .i64 p_r.Account)), (.val (.int .i64 p_r.Symbol)), (.val (.int .i64 p_r.Side)), (.val (.int .i64 p_r.Qty)), (.val (.int .i64 p_r.Price)), (.val (.int .i64 p_r.Long)), (.val (.int .i64 p_r.Short)), (.val (.int .i64 p_r.Open)), (.val (.bool p_r.On)), (.val (.int .i64 p_r.Seq)), (.val (.int .i64 p_r.What))])) (E_load (by kernel_rfl)) rfl rfl ?_
    refine q_bind fun v2 hv2 => ?_
    refine G_op [0] (v := (.val (.tup [(.agg [(.int .i64 v2.1.Id), (.int .i64 v2.1.Account), (.int .i64 v2.1.Symbol), (.int .i64 v2.1.Side), (.int .i64 v2.1.Qty), (.int .i64 v2.1.Price), (.int .i64 v2.1.Filled), (.int .i64 v2.1.Phase), (.int .i64 v2.1.NewQty), (.int .i64 v2.1.NewPrice), (.int .i64 v2.1.Version), (.bool v2.1.Asked)]), (.int .i64 v2.2)]))) (E_call (ds := [.agg (e_RecT p_r)]) (r := .tup [.agg (e_OrderT v2.1), .int .i64 v2.2]) hc39 (by kernel_rfl) ((hs39 p_r _ (by kernel_rfl)).trans (congrArg _ hv2))) rfl rfl ?_
    refine G_op [0] (v := (.val (.tup [(.agg [(.int .i64 v2.1.Id), (.int .i64 v2.1.Account), (.int .i64 v2.1.Symbol), (.int .i64 v2.1.Side), (.int .i64 v2.1.Qty), (.int .i64 v2.1.Price), (.int .i64 v2.1.Filled), (.int .i64 v2.1.Phase), (.int .i64 v2.1.NewQty), (.int .i64 v2.1.NewPrice), (.int .i64 v2.1.Version), (.bool v2.1.Asked)]), (.int .i64 v2.2)]))) (E_p (by kernel_rfl)) rfl rfl ?_
    refine G_op [0] (v := (.val (.agg [(.int .i64 v2.1.Id), (.int .i64 v2.1.Account), (.int .i64 v2.1.Symbol), (.int .i64 v2.1.Side), (.int .i64 v2.1.Qty), (.int .i64 v2.1.Price), (.int .i64 v2.1.Filled), (.int .i64 v2.1.Phase), (.int .i64 v2.1.NewQty), (.int .i64 v2.1.NewPrice), (.int .i64 v2.1.Version), (.bool v2.1.Asked)]))) (E_p (by kernel_rfl)) rfl rfl ?_
    refine G_op [0] (v := (.val (.int .i64 v2.2))) (E_p (by kernel_rfl)) rfl rfl ?_
    refine G_op [1002] (v := (.box [1002] 0)) (E_a (u := (.box [1002] 0)) (b := (.box [(.val (.int .i64 0)), (.val (.int .i64 0)), (.val (.int .i64 0)), (.val (.int .i64 0)), (.val (.int .i64 0)), (.val (.int .i64 0)), (.val (.int .i64 0)), (.val (.int .i64 0)), (.val (.int .i64 0)), (.val (.int .i64 0)), (.val (.int .i64 0)), (.val (.bool false))])) (h' := [([1001], (.box [(.val (.int .i64 p_r.Kind)), (.val (.int .i64 p_r.Order)), (.val (.int .i64 p_r.Account)), (.val (.int .i64 p_r.Symbol)), (.val (.int .i64 p_r.Side)), (.val (.int .i64 p_r.Qty)), (.val (.int .i64 p_r.Price)), (.val (.int .i64 p_r.Long)), (.val (.int .i64 p_r.Short)), (.val (.int .i64 p_r.Open)), (.val (.bool p_r.On)), (.val (.int .i64 p_r.Seq)), (.val (.int .i64 p_r.What))])), ([1002], (.box [(.val (.int .i64 0)), (.val (.int .i64 0)), (.val (.int .i64 0)), (.val (.int .i64 0)), (.val (.int .i64 0)), (.val (.int .i64 0)), (.val (.int .i64 0)), (.val (.int .i64 0)), (.val (.int .i64 0)), (.val (.int .i64 0)), (.val (.int .i64 0)), (.val (.bool false))]))]) (by kernel_rfl) (by kernel_rfl) (by kernel_rfl)) rfl rfl ?_
    refine G_op0 [0] (v := (.val (.tup []))) (E_store (b := [1002]) (o := 0) (cs := [(.val (.int .i64 v2.1.Id)), (.val (.int .i64 v2.1.Account)), (.val (.int .i64 v2.1.Symbol)), (.val (.int .i64 v2.1.Side)), (.val (.int .i64 v2.1.Qty)), (.val (.int .i64 v2.1.Price)), (.val (.int .i64 v2.1.Filled)), (.val (.int .i64 v2.1.Phase)), (.val (.int .i64 v2.1.NewQty)), (.val (.int .i64 v2.1.NewPrice)), (.val (.int .i64 v2.1.Version)), (.val (.bool v2.1.Asked))]) (cells := [(.val (.int .i64 0)), (.val (.int .i64 0)), (.val (.int .i64 0)), (.val (.int .i64 0)), (.val (.int .i64 0)), (.val (.int .i64 0)), (.val (.int .i64 0)), (.val (.int .i64 0)), (.val (.int .i64 0)), (.val (.int .i64 0)), (.val (.int .i64 0)), (.val (.bool false))]) (cells' := [(.val (.int .i64 v2.1.Id)), (.val (.int .i64 v2.1.Account)), (.val (.int .i64 v2.1.Symbol)), (.val (.int .i64 v2.1.Side)), (.val (.int .i64 v2.1.Qty)), (.val (.int .i64 v2.1.Price)), (.val (.int .i64 v2.1.Filled)), (.val (.int .i64 v2.1.Phase)), (.val (.int .i64 v2.1.NewQty)), (.val (.int .i64 v2.1.NewPrice)), (.val (.int .i64 v2.1.Version)), (.val (.bool v2.1.Asked))]) (h' := [([1001], (.box [(.val (.int .i64 p_r.Kind)), (.val (.int .i64 p_r.Order)), (.val (.int .i64 p_r.Account)), (.val (.int .i64 p_r.Symbol)), (.val (.int .i64 p_r.Side)), (.val (.int .i64 p_r.Qty)), (.val (.int .i64 p_r.Price)), (.val (.int .i64 p_r.Long)), (.val (.int .i64 p_r.Short)), (.val (.int .i64 p_r.Open)), (.val (.bool p_r.On)), (.val (.int .i64 p_r.Seq)), (.val (.int .i64 p_r.What))])), ([1002], (.box [(.val (.int .i64 v2.1.Id)), (.val (.int .i64 v2.1.Account)), (.val (.int .i64 v2.1.Symbol)), (.val (.int .i64 v2.1.Side)), (.val (.int .i64 v2.1.Qty)), (.val (.int .i64 v2.1.Price)), (.val (.int .i64 v2.1.Filled)), (.val (.int .i64 v2.1.Phase)), (.val (.int .i64 v2.1.NewQty)), (.val (.int .i64 v2.1.NewPrice)), (.val (.int .i64 v2.1.Version)), (.val (.bool v2.1.Asked))]))]) (by kernel_rfl) (by kernel_rfl) (by kernel_rfl) rfl (by kernel_rfl) (by kernel_rfl) (by kernel_rfl) (by kernel_rfl)) rfl ?_
    refine G_op [0] (v := (.val (.int .i64 v2.2))) (E_p (by kernel_rfl)) rfl rfl ?_
    refine G_nil ?_
    refine G_then ?_
    refine G_seq ?_
    refine G_seq ?_
    refine G_region ?_
    refine G_op [0] (v := (.val (.int .i64 v2.2))) (E_p (by kernel_rfl)) rfl rfl ?_
    refine G_op [0] (v := (.val (.bool (v2.2 != 0)))) (E_p (by kernel_rfl)) rfl rfl ?_
    refine G_nil ?_
    refine G_then ?_
    refine G_subW (s0 := ⟨⟨110, [(19, (.val (.bool (v2.2 != 0)))), (3, (.box [1002] 0)), (2, (.val (.bool false))), (1, (.box [1001] 0))]⟩, mkH [([1001], (.box [(.val (.int .i64 p_r.Kind)), (.val (.int .i64 p_r.Order)), (.val (.int .i64 p_r.Account)), (.val (.int .i64 p_r.Symbol)), (.val (.int .i64 p_r.Side)), (.val (.int .i64 p_r.Qty)), (.val (.int .i64 p_r.Price)), (.val (.int .i64 p_r.Long)), (.val (.int .i64 p_r.Short)), (.val (.int .i64 p_r.Open)), (.val (.bool p_r.On)), (.val (.int .i64 p_r.Seq)), (.val (.int .i64 p_r.What))])), ([1002], (.box [(.val (.int .i64 v2.1.Id)), (.val (.int .i64 v2.1.Account)), (.val (.int .i64 v2.1.Symbol)), (.val (.int .i64 v2.1.Side)), (.val (.int .i64 v2.1.Qty)), (.val (.int .i64 v2.1.Price)), (.val (.int .i64 v2.1.Filled)), (.val (.int .i64 v2.1.Phase)), (.val (.int .i64 v2.1.NewQty)), (.val (.int .i64 v2.1.NewPrice)), (.val (.int .i64 v2.1.Version)), (.val (.bool v2.1.Asked))]))]⟩) (by exact Sub_env ⟨.refl _, .refl _, .refl _, .refl _, trivial⟩) ?_
    refine G_cond (t := (v2.2 != 0)) (by kernel_rfl) (fun _ => ?_) (fun _ => ?_)
    · refine G_seq ?_
      refine G_region ?_
      refine G_op [0] (v := (.agg [(.val (.int .i64 v2.1.Id)), (.val (.int .i64 v2.1.Account)), (.val (.int .i64 v2.1.Symbol)), (.val (.int .i64 v2.1.Side)), (.val (.int .i64 v2.1.Qty)), (.val (.int .i64 v2.1.Price)), (.val (.int .i64 v2.1.Filled)), (.val (.int .i64 v2.1.Phase)), (.val (.int .i64 v2.1.NewQty)), (.val (.int .i64 v2.1.NewPrice)), (.val (.int .i64 v2.1.Version)), (.val (.bool v2.1.Asked))])) (E_load (by kernel_rfl)) rfl rfl ?_
      refine G_op [0] (v := (.agg [(.val (.int .i64 0)), (.val (.int .i64 0)), (.val (.int .i64 0)), (.val (.int .i64 0)), (.val (.int .i64 0)), (.val (.int .i64 0)), (.val (.int .i64 0)), (.val (.int .i64 0)), (.val (.int .i64 0)), (.val (.int .i64 0)), (.val (.int .i64 0)), (.val (.bool false))])) (E_p (by kernel_rfl)) rfl rfl ?_
      refine G_op [0] (v := (.val (.bool ((v2.1.Id == 0) && ((v2.1.Account == 0) && ((v2.1.Symbol == 0) && ((v2.1.Side == 0) && ((v2.1.Qty == 0) && ((v2.1.Price == 0) && ((v2.1.Filled == 0) && ((v2.1.Phase == 0) && ((v2.1.NewQty == 0) && ((v2.1.NewPrice == 0) && ((v2.1.Version == 0) && ((v2.1.Asked == false) && true))))))))))))))) (E_p (by kernel_rfl)) rfl rfl ?_
      refine G_op [0] (v := (.val (.bool ((v2.1.Id == 0) && ((v2.1.Account == 0) && ((v2.1.Symbol == 0) && ((v2.1.Side == 0) && ((v2.1.Qty == 0) && ((v2.1.Price == 0) && ((v2.1.Filled == 0) && ((v2.1.Phase == 0) && ((v2.1.NewQty == 0) && ((v2.1.NewPrice == 0) && ((v2.1.Version == 0) && ((v2.1.Asked == false) && true))))))))))))))) (E_p (by kernel_rfl)) rfl rfl ?_
      refine G_joinR (l := t13_1) (st := fun (b4 : Bool) => ⟨⟨110, [(32, (.val (.bool b4))), (3, (.box [1002] 0)), (2, (.val (.bool false))), (1, (.box [1001] 0))]⟩, mkH [([1001], (.box [(.val (.int .i64 p_r.Kind)), (.val (.int .i64 p_r.Order)), (.val (.int .i64 p_r.Account)), (.val (.int .i64 p_r.Symbol)), (.val (.int .i64 p_r.Side)), (.val (.int .i64 p_r.Qty)), (.val (.int .i64 p_r.Price)), (.val (.int .i64 p_r.Long)), (.val (.int .i64 p_r.Short)), (.val (.int .i64 p_r.Open)), (.val (.bool p_r.On)), (.val (.int .i64 p_r.Seq)), (.val (.int .i64 p_r.What))])), ([1002], (.box [(.val (.int .i64 v2.1.Id)), (.val (.int .i64 v2.1.Account)), (.val (.int .i64 v2.1.Symbol)), (.val (.int .i64 v2.1.Side)), (.val (.int .i64 v2.1.Qty)), (.val (.int .i64 v2.1.Price)), (.val (.int .i64 v2.1.Filled)), (.val (.int .i64 v2.1.Phase)), (.val (.int .i64 v2.1.NewQty)), (.val (.int .i64 v2.1.NewPrice)), (.val (.int .i64 v2.1.Version)), (.val (.bool v2.1.Asked))]))]⟩) (fun b4 => ?_) (fun r5 hr5 => ?_)
      · refine G_op [0] (v := (.val (.bool b4))) (E_p (by kernel_rfl)) rfl rfl ?_
        refine G_nil ?_
        refine G_then ?_
        refine G_ret ?_
        refine G_thenR ?_
        refine G_retR ?_
        refine q_some fun hA => ?_
        show outV _ _ = some _
        kernel_rfl
      · refine q_bif (fun h3 => ?_) (fun h3 => ?_)
        · refine G_subR (Sub_lit (t := 23) (v := true) rfl h3) ?_
          refine G_op [0] (v := (.box [1001] 0)) (E_p (by kernel_rfl)) rfl rfl ?_
          refine G_op [0] (v := (.val (.int .i64 p_r.Kind))) (E_load (by kernel_rfl)) rfl rfl ?_
          refine G_op [0] (v := (.val (.bool (p_r.Kind != 1)))) (E_p (by kernel_rfl)) rfl rfl ?_
          refine G_op [0] (v := (.val (.bool (p_r.Kind != 1)))) (E_p (by kernel_rfl)) rfl rfl ?_
          refine G_joinR (l := t13_0) (st := fun (b7 : Bool) => ⟨⟨110, [(31, (.val (.bool b7))), (23, (.val (.bool true))), (3, (.box [1002] 0)), (2, (.val (.bool false))), (1, (.box [1001] 0))]⟩, mkH [([1001], (.box [(.val (.int .i64 p_r.Kind)), (.val (.int .i64 p_r.Order)), (.val (.int .i64 p_r.Account)), (.val (.int .i64 p_r.Symbol)), (.val (.int .i64 p_r.Side)), (.val (.int .i64 p_r.Qty)), (.val (.int .i64 p_r.Price)), (.val (.int .i64 p_r.Long)), (.val (.int .i64 p_r.Short)), (.val (.int .i64 p_r.Open)), (.val (.bool p_r.On)), (.val (.int .i64 p_r.Seq)), (.val (.int .i64 p_r.What))])), ([1002], (.box [(.val (.int .i64 v2.1.Id)), (.val (.int .i64 v2.1.Account)), (.val (.int .i64 v2.1.Symbol)), (.val (.int .i64 v2.1.Side)), (.val (.int .i64 v2.1.Qty)), (.val (.int .i64 v2.1.Price)), (.val (.int .i64 v2.1.Filled)), (.val (.int .i64 v2.1.Phase)), (.val (.int .i64 v2.1.NewQty)), (.val (.int .i64 v2.1.NewPrice)), (.val (.int .i64 v2.1.Version)), (.val (.bool v2.1.Asked))]))]⟩) (fun b7 => ?_) (fun r8 hr8 => ?_)
          · refine G_op [0] (v := (.val (.bool b7))) (E_p (by kernel_rfl)) rfl rfl ?_
            exact q_some fun h => RP_sub (by exact Sub_env ⟨.refl _, .refl _, .refl _, .refl _, trivial⟩) h
          · refine q_bif (fun h6 => ?_) (fun h6 => ?_)
            · refine G_subR (Sub_lit (t := 27) (v := true) rfl h6) ?_
              refine G_off rfl rfl ?_
              refine G_off rfl rfl ?_
              refine G_off rfl rfl ?_
              refine G_op [0] (v := (.val (.bool true))) (E_p (by kernel_rfl)) rfl rfl ?_
              exact q_some fun h => RP_sub (by exact Sub_env ⟨.refl _, .refl _, .refl _, .refl _, .refl _, trivial⟩) h
            · refine G_subR (Sub_lit (t := 27) (v := false) rfl h6) ?_
              refine G_op [0] (v := (.agg [(.val (.int .i64 p_r.Kind)), (.val (.int .i64 p_r.Order)), (.val (.int .i64 p_r.Account)), (.val (.int .i64 p_r.Symbol)), (.val (.int .i64 p_r.Side)), (.val (.int .i64 p_r.Qty)), (.val (.int .i64 p_r.Price)), (.val (.int .i64 p_r.Long)), (.val (.int .i64 p_r.Short)), (.val (.int .i64 p_r.Open)), (.val (.bool p_r.On)), (.val (.int .i64 p_r.Seq)), (.val (.int .i64 p_r.What))])) (E_load (by kernel_rfl)) rfl rfl ?_
              refine q_bind fun v9 hv9 => ?_
              refine G_op [0] (v := (.val (.bool v9))) (E_call (ds := [.agg (e_RecT p_r)]) (r := .bool v9) hc52 (by kernel_rfl) ((hs52 p_r _ (by kernel_rfl)).trans (congrArg _ hv9))) rfl rfl ?_
              refine G_op [0] (v := (.val (.bool (!v9)))) (E_p (by kernel_rfl)) rfl rfl ?_
              refine G_op [0] (v := (.val (.bool (!v9)))) (E_p (by kernel_rfl)) rfl rfl ?_
              exact q_some fun h => RP_sub (by exact Sub_env ⟨.refl _, .refl _, .refl _, .refl _, .refl _, trivial⟩) h
        · refine G_subR (Sub_lit (t := 23) (v := false) rfl h3) ?_
          refine G_off rfl rfl ?_
          refine G_off rfl rfl ?_
          refine G_off rfl rfl ?_
          refine G_off rfl rfl ?_
          refine G_off rfl rfl ?_
          refine G_off rfl rfl ?_
          refine G_off rfl rfl ?_
          refine G_off rfl rfl ?_
          refine G_op [0] (v := (.val (.bool false))) (E_p (by kernel_rfl)) rfl rfl ?_
          exact q_some fun h => RP_sub (by exact Sub_env ⟨.refl _, .refl _, .refl _, .refl _, trivial⟩) h
    · refine G_skip ?_
      refine G_then ?_
      refine G_seq ?_
      refine G_region ?_
      refine G_op [0] (v := (.agg [(.val (.int .i64 v2.1.Id)), (.val (.int .i64 v2.1.Account)), (.val (.int .i64 v2.1.Symbol)), (.val (.int .i64 v2.1.Side)), (.val (.int .i64 v2.1.Qty)), (.val (.int .i64 v2.1.Price)), (.val (.int .i64 v2.1.Filled)), (.val (.int .i64 v2.1.Phase)), (.val (.int .i64 v2.1.NewQty)), (.val (.int .i64 v2.1.NewPrice)), (.val (.int .i64 v2.1.Version)), (.val (.bool v2.1.Asked))])) (E_load (by kernel_rfl)) rfl rfl ?_
      refine G_op [0] (v := (.box [1001] 1)) (E_p (by kernel_rfl)) rfl rfl ?_
      refine G_op [0] (v := (.val (.int .i64 p_r.Order))) (E_load (by kernel_rfl)) rfl rfl ?_
      refine G_op [0] (v := (.agg [(.val (.int .i64 1)), (.val (.int .i64 2)), (.val (.int .i64 p_r.Order)), (.val (.int .i64 0)), (.val (.int .i64 0))])) (E_p (by kernel_rfl)) rfl rfl ?_
      refine q_bind fun v10 hv10 => ?_
      refine G_op [0] (v := (.val (.tup [(.agg [(.int .i64 v10.1.Id), (.int .i64 v10.1.Account), (.int .i64 v10.1.Symbol), (.int .i64 v10.1.Side), (.int .i64 v10.1.Qty), (.int .i64 v10.1.Price), (.int .i64 v10.1.Filled), (.int .i64 v10.1.Phase), (.int .i64 v10.1.NewQty), (.int .i64 v10.1.NewPrice), (.int .i64 v10.1.Version), (.bool v10.1.Asked)]), (.int .i64 v10.2)]))) (E_call (ds := [.agg (e_OrderT v2.1), .agg (e_NoteT (NoteT.mk 1 2 p_r.Order 0 0))]) (r := .tup [.agg (e_OrderT v10.1), .int .i64 v10.2]) hc43 (by kernel_rfl) ((hs43 v2.1 (NoteT.mk 1 2 p_r.Order 0 0) _ (by kernel_rfl)).trans (congrArg _ hv10))) rfl rfl ?_
      refine G_op [0] (v := (.val (.tup [(.agg [(.int .i64 v10.1.Id), (.int .i64 v10.1.Account), (.int .i64 v10.1.Symbol), (.int .i64 v10.1.Side), (.int .i64 v10.1.Qty), (.int .i64 v10.1.Price), (.int .i64 v10.1.Filled), (.int .i64 v10.1.Phase), (.int .i64 v10.1.NewQty), (.int .i64 v10.1.NewPrice), (.int .i64 v10.1.Version), (.bool v10.1.Asked)]), (.int .i64 v10.2)]))) (E_p (by kernel_rfl)) rfl rfl ?_
      refine G_op [0] (v := (.val (.agg [(.int .i64 v10.1.Id), (.int .i64 v10.1.Account), (.int .i64 v10.1.Symbol), (.int .i64 v10.1.Side), (.int .i64 v10.1.Qty), (.int .i64 v10.1.Price), (.int .i64 v10.1.Filled), (.int .i64 v10.1.Phase), (.int .i64 v10.1.NewQty), (.int .i64 v10.1.NewPrice), (.int .i64 v10.1.Version), (.bool v10.1.Asked)]))) (E_p (by kernel_rfl)) rfl rfl ?_
      refine G_op [0] (v := (.val (.int .i64 v10.2))) (E_p (by kernel_rfl)) rfl rfl ?_
      refine G_op [1003] (v := (.box [1003] 0)) (E_a (u := (.box [1003] 0)) (b := (.box [(.val (.int .i64 0)), (.val (.int .i64 0)), (.val (.int .i64 0)), (.val (.int .i64 0)), (.val (.int .i64 0)), (.val (.int .i64 0)), (.val (.int .i64 0)), (.val (.int .i64 0)), (.val (.int .i64 0)), (.val (.int .i64 0)), (.val (.int .i64 0)), (.val (.bool false))])) (h' := [([1001], (.box [(.val (.int .i64 p_r.Kind)), (.val (.int .i64 p_r.Order)), (.val (.int .i64 p_r.Account)), (.val (.int .i64 p_r.Symbol)), (.val (.int .i64 p_r.Side)), (.val (.int .i64 p_r.Qty)), (.val (.int .i64 p_r.Price)), (.val (.int .i64 p_r.Long)), (.val (.int .i64 p_r.Short)), (.val (.int .i64 p_r.Open)), (.val (.bool p_r.On)), (.val (.int .i64 p_r.Seq)), (.val (.int .i64 p_r.What))])), ([1002], (.box [(.val (.int .i64 v2.1.Id)), (.val (.int .i64 v2.1.Account)), (.val (.int .i64 v2.1.Symbol)), (.val (.int .i64 v2.1.Side)), (.val (.int .i64 v2.1.Qty)), (.val (.int .i64 v2.1.Price)), (.val (.int .i64 v2.1.Filled)), (.val (.int .i64 v2.1.Phase)), (.val (.int .i64 v2.1.NewQty)), (.val (.int .i64 v2.1.NewPrice)), (.val (.int .i64 v2.1.Version)), (.val (.bool v2.1.Asked))])), ([1003], (.box [(.val (.int .i64 0)), (.val (.int .i64 0)), (.val (.int .i64 0)), (.val (.int .i64 0)), (.val (.int .i64 0)), (.val (.int .i64 0)), (.val (.int .i64 0)), (.val (.int .i64 0)), (.val (.int .i64 0)), (.val (.int .i64 0)), (.val (.int .i64 0)), (.val (.bool false))]))]) (by kernel_rfl) (by kernel_rfl) (by kernel_rfl)) rfl rfl ?_
      refine G_op0 [0] (v := (.val (.tup []))) (E_store (b := [1003]) (o := 0) (cs := [(.val (.int .i64 v10.1.Id)), (.val (.int .i64 v10.1.Account)), (.val (.int .i64 v10.1.Symbol)), (.val (.int .i64 v10.1.Side)), (.val (.int .i64 v10.1.Qty)), (.val (.int .i64 v10.1.Price)), (.val (.int .i64 v10.1.Filled)), (.val (.int .i64 v10.1.Phase)), (.val (.int .i64 v10.1.NewQty)), (.val (.int .i64 v10.1.NewPrice)), (.val (.int .i64 v10.1.Version)), (.val (.bool v10.1.Asked))]) (cells := [(.val (.int .i64 0)), (.val (.int .i64 0)), (.val (.int .i64 0)), (.val (.int .i64 0)), (.val (.int .i64 0)), (.val (.int .i64 0)), (.val (.int .i64 0)), (.val (.int .i64 0)), (.val (.int .i64 0)), (.val (.int .i64 0)), (.val (.int .i64 0)), (.val (.bool false))]) (cells' := [(.val (.int .i64 v10.1.Id)), (.val (.int .i64 v10.1.Account)), (.val (.int .i64 v10.1.Symbol)), (.val (.int .i64 v10.1.Side)), (.val (.int .i64 v10.1.Qty)), (.val (.int .i64 v10.1.Price)), (.val (.int .i64 v10.1.Filled)), (.val (.int .i64 v10.1.Phase)), (.val (.int .i64 v10.1.NewQty)), (.val (.int .i64 v10.1.NewPrice)), (.val (.int .i64 v10.1.Version)), (.val (.bool v10.1.Asked))]) (h' := [([1001], (.box [(.val (.int .i64 p_r.Kind)), (.val (.int .i64 p_r.Order)), (.val (.int .i64 p_r.Account)), (.val (.int .i64 p_r.Symbol)), (.val (.int .i64 p_r.Side)), (.val (.int .i64 p_r.Qty)), (.val (.int .i64 p_r.Price)), (.val (.int .i64 p_r.Long)), (.val (.int .i64 p_r.Short)), (.val (.int .i64 p_r.Open)), (.val (.bool p_r.On)), (.val (.int .i64 p_r.Seq)), (.val (.int .i64 p_r.What))])), ([1002], (.box [(.val (.int .i64 v2.1.Id)), (.val (.int .i64 v2.1.Account)), (.val (.int .i64 v2.1.Symbol)), (.val (.int .i64 v2.1.Side)), (.val (.int .i64 v2.1.Qty)), (.val (.int .i64 v2.1.Price)), (.val (.int .i64 v2.1.Filled)), (.val (.int .i64 v2.1.Phase)), (.val (.int .i64 v2.1.NewQty)), (.val (.int .i64 v2.1.NewPrice)), (.val (.int .i64 v2.1.Version)), (.val (.bool v2.1.Asked))])), ([1003], (.box [(.val (.int .i64 v10.1.Id)), (.val (.int .i64 v10.1.Account)), (.val (.int .i64 v10.1.Symbol)), (.val (.int .i64 v10.1.Side)), (.val (.int .i64 v10.1.Qty)), (.val (.int .i64 v10.1.Price)), (.val (.int .i64 v10.1.Filled)), (.val (.int .i64 v10.1.Phase)), (.val (.int .i64 v10.1.NewQty)), (.val (.int .i64 v10.1.NewPrice)), (.val (.int .i64 v10.1.Version)), (.val (.bool v10.1.Asked))]))]) (by kernel_rfl) (by kernel_rfl) (by kernel_rfl) rfl (by kernel_rfl) (by kernel_rfl) (by kernel_rfl) (by kernel_rfl)) rfl ?_
      refine G_op [0] (v := (.val (.int .i64 v10.2))) (E_p (by kernel_rfl)) rfl rfl ?_
      refine G_nil ?_
      refine G_then ?_
      refine G_subW (s0 := ⟨⟨110, [(6, (.val (.int .i64 v10.2))), (5, (.box [1003] 0)), (3, (.box [1002] 0)), (2, (.val (.bool false))), (1, (.box [1001] 0))]⟩, mkH [([1001], (.box [(.val (.int .i64 p_r.Kind)), (.val (.int .i64 p_r.Order)), (.val (.int .i64 p_r.Account)), (.val (.int .i64 p_r.Symbol)), (.val (.int .i64 p_r.Side)), (.val (.int .i64 p_r.Qty)), (.val (.int .i64 p_r.Price)), (.val (.int .i64 p_r.Long)), (.val (.int .i64 p_r.Short)), (.val (.int .i64 p_r.Open)), (.val (.bool p_r.On)), (.val (.int .i64 p_r.Seq)), (.val (.int .i64 p_r.What))])), ([1002], (.box [(.val (.int .i64 v2.1.Id)), (.val (.int .i64 v2.1.Account)), (.val (.int .i64 v2.1.Symbol)), (.val (.int .i64 v2.1.Side)), (.val (.int .i64 v2.1.Qty)), (.val (.int .i64 v2.1.Price)), (.val (.int .i64 v2.1.Filled)), (.val (.int .i64 v2.1.Phase)), (.val (.int .i64 v2.1.NewQty)), (.val (.int .i64 v2.1.NewPrice)), (.val (.int .i64 v2.1.Version)), (.val (.bool v2.1.Asked))])), ([1003], (.box [(.val (.int .i64 v10.1.Id)), (.val (.int .i64 v10.1.Account)), (.val (.int .i64 v10.1.Symbol)), (.val (.int .i64 v10.1.Side)), (.val (.int .i64 v10.1.Qty)), (.val (.int .i64 v10.1.Price)), (.val (.int .i64 v10.1.Filled)), (.val (.int .i64 v10.1.Phase)), (.val (.int .i64 v10.1.NewQty)), (.val (.int .i64 v10.1.NewPrice)), (.val (.int .i64 v10.1.Version)), (.val (.bool v10.1.Asked))]))]⟩) (by exact Sub_env ⟨.refl _, .refl _, .refl _, .refl _, .refl _, trivial⟩) ?_
      refine G_seq ?_
      refine G_region ?_
      refine G_op [0] (v := (.agg [(.val (.int .i64 v2.1.Id)), (.val (.int .i64 v2.1.Account)), (.val (.int .i64 v2.1.Symbol)), (.val (.int .i64 v2.1.Side)), (.val (.int .i64 v2.1.Qty)), (.val (.int .i64 v2.1.Price)), (.val (.int .i64 v2.1.Filled)), (.val (.int .i64 v2.1.Phase)), (.val (.int .i64 v2.1.NewQty)), (.val (.int .i64 v2.1.NewPrice)), (.val (.int .i64 v2.1.Version)), (.val (.bool v2.1.Asked))])) (E_load (by kernel_rfl)) rfl rfl ?_
      refine G_op [0] (v := (.box [1001] 1)) (E_p (by kernel_rfl)) rfl rfl ?_
      refine G_op [0] (v := (.val (.int .i64 p_r.Order))) (E_load (by kernel_rfl)) rfl rfl ?_
      refine G_op [0] (v := (.agg [(.val (.int .i64 1)), (.val (.int .i64 1)), (.val (.int .i64 p_r.Order)), (.val (.int .i64 0)), (.val (.int .i64 0))])) (E_p (by kernel_rfl)) rfl rfl ?_
      refine q_bind fun v11 hv11 => ?_
      refine G_op [0] (v := (.val (.tup [(.agg [(.int .i64 v11.1.Id), (.int .i64 v11.1.Account), (.int .i64 v11.1.Symbol), (.int .i64 v11.1.Side), (.int .i64 v11.1.Qty), (.int .i64 v11.1.Price), (.int .i64 v11.1.Filled), (.int .i64 v11.1.Phase), (.int .i64 v11.1.NewQty), (.int .i64 v11.1.NewPrice), (.int .i64 v11.1.Version), (.bool v11.1.Asked)]), (.int .i64 v11.2)]))) (E_call (ds := [.agg (e_OrderT v2.1), .agg (e_NoteT (NoteT.mk 1 1 p_r.Order 0 0))]) (r := .tup [.agg (e_OrderT v11.1), .int .i64 v11.2]) hc43 (by kernel_rfl) ((hs43 v2.1 (NoteT.mk 1 1 p_r.Order 0 0) _ (by kernel_rfl)).trans (congrArg _ hv11))) rfl rfl ?_
      refine G_op [0] (v := (.val (.tup [(.agg [(.int .i64 v11.1.Id), (.int .i64 v11.1.Account), (.int .i64 v11.1.Symbol), (.int .i64 v11.1.Side), (.int .i64 v11.1.Qty), (.int .i64 v11.1.Price), (.int .i64 v11.1.Filled), (.int .i64 v11.1.Phase), (.int .i64 v11.1.NewQty), (.int .i64 v11.1.NewPrice), (.int .i64 v11.1.Version), (.bool v11.1.Asked)]), (.int .i64 v11.2)]))) (E_p (by kernel_rfl)) rfl rfl ?_
      refine G_op [0] (v := (.val (.agg [(.int .i64 v11.1.Id), (.int .i64 v11.1.Account), (.int .i64 v11.1.Symbol), (.int .i64 v11.1.Side), (.int .i64 v11.1.Qty), (.int .i64 v11.1.Price), (.int .i64 v11.1.Filled), (.int .i64 v11.1.Phase), (.int .i64 v11.1.NewQty), (.int .i64 v11.1.NewPrice), (.int .i64 v11.1.Version), (.bool v11.1.Asked)]))) (E_p (by kernel_rfl)) rfl rfl ?_
      refine G_op [0] (v := (.val (.int .i64 v11.2))) (E_p (by kernel_rfl)) rfl rfl ?_
      refine G_op [1004] (v := (.box [1004] 0)) (E_a (u := (.box [1004] 0)) (b := (.box [(.val (.int .i64 0)), (.val (.int .i64 0)), (.val (.int .i64 0)), (.val (.int .i64 0)), (.val (.int .i64 0)), (.val (.int .i64 0)), (.val (.int .i64 0)), (.val (.int .i64 0)), (.val (.int .i64 0)), (.val (.int .i64 0)), (.val (.int .i64 0)), (.val (.bool false))])) (h' := [([1001], (.box [(.val (.int .i64 p_r.Kind)), (.val (.int .i64 p_r.Order)), (.val (.int .i64 p_r.Account)), (.val (.int .i64 p_r.Symbol)), (.val (.int .i64 p_r.Side)), (.val (.int .i64 p_r.Qty)), (.val (.int .i64 p_r.Price)), (.val (.int .i64 p_r.Long)), (.val (.int .i64 p_r.Short)), (.val (.int .i64 p_r.Open)), (.val (.bool p_r.On)), (.val (.int .i64 p_r.Seq)), (.val (.int .i64 p_r.What))])), ([1002], (.box [(.val (.int .i64 v2.1.Id)), (.val (.int .i64 v2.1.Account)), (.val (.int .i64 v2.1.Symbol)), (.val (.int .i64 v2.1.Side)), (.val (.int .i64 v2.1.Qty)), (.val (.int .i64 v2.1.Price)), (.val (.int .i64 v2.1.Filled)), (.val (.int .i64 v2.1.Phase)), (.val (.int .i64 v2.1.NewQty)), (.val (.int .i64 v2.1.NewPrice)), (.val (.int .i64 v2.1.Version)), (.val (.bool v2.1.Asked))])), ([1003], (.box [(.val (.int .i64 v10.1.Id)), (.val (.int .i64 v10.1.Account)), (.val (.int .i64 v10.1.Symbol)), (.val (.int .i64 v10.1.Side)), (.val (.int .i64 v10.1.Qty)), (.val (.int .i64 v10.1.Price)), (.val (.int .i64 v10.1.Filled)), (.val (.int .i64 v10.1.Phase)), (.val (.int .i64 v10.1.NewQty)), (.val (.int .i64 v10.1.NewPrice)), (.val (.int .i64 v10.1.Version)), (.val (.bool v10.1.Asked))])), ([1004], (.box [(.val (.int .i64 0)), (.val (.int .i64 0)), (.val (.int .i64 0)), (.val (.int .i64 0)), (.val (.int .i64 0)), (.val (.int .i64 0)), (.val (.int .i64 0)), (.val (.int .i64 0)), (.val (.int .i64 0)), (.val (.int .i64 0)), (.val (.int .i64 0)), (.val (.bool false))]))]) (by kernel_rfl) (by kernel_rfl) (by kernel_rfl)) rfl rfl ?_
      refine G_op0 [0] (v := (.val (.tup []))) (E_store (b := [1004]) (o := 0) (cs := [(.val (.int .i64 v11.1.Id)), (.val (.int .i64 v11.1.Account)), (.val (.int .i64 v11.1.Symbol)), (.val (.int .i64 v11.1.Side)), (.val (.int .i64 v11.1.Qty)), (.val (.int .i64 v11.1.Price)), (.val (.int .i64 v11.1.Filled)), (.val (.int .i64 v11.1.Phase)), (.val (.int .i64 v11.1.NewQty)), (.val (.int .i64 v11.1.NewPrice)), (.val (.int .i64 v11.1.Version)), (.val (.bool v11.1.Asked))]) (cells := [(.val (.int .i64 0)), (.val (.int .i64 0)), (.val (.int .i64 0)), (.val (.int .i64 0)), (.val (.int .i64 0)), (.val (.int .i64 0)), (.val (.int .i64 0)), (.val (.int .i64 0)), (.val (.int .i64 0)), (.val (.int .i64 0)), (.val (.int .i64 0)), (.val (.bool false))]) (cells' := [(.val (.int .i64 v11.1.Id)), (.val (.int .i64 v11.1.Account)), (.val (.int .i64 v11.1.Symbol)), (.val (.int .i64 v11.1.Side)), (.val (.int .i64 v11.1.Qty)), (.val (.int .i64 v11.1.Price)), (.val (.int .i64 v11.1.Filled)), (.val (.int .i64 v11.1.Phase)), (.val (.int .i64 v11.1.NewQty)), (.val (.int .i64 v11.1.NewPrice)), (.val (.int .i64 v11.1.Version)), (.val (.bool v11.1.Asked))]) (h' := [([1001], (.box [(.val (.int .i64 p_r.Kind)), (.val (.int .i64 p_r.Order)), (.val (.int .i64 p_r.Account)), (.val (.int .i64 p_r.Symbol)), (.val (.int .i64 p_r.Side)), (.val (.int .i64 p_r.Qty)), (.val (.int .i64 p_r.Price)), (.val (.int .i64 p_r.Long)), (.val (.int .i64 p_r.Short)), (.val (.int .i64 p_r.Open)), (.val (.bool p_r.On)), (.val (.int .i64 p_r.Seq)), (.val (.int .i64 p_r.What))])), ([1002], (.box [(.val (.int .i64 v2.1.Id)), (.val (.int .i64 v2.1.Account)), (.val (.int .i64 v2.1.Symbol)), (.val (.int .i64 v2.1.Side)), (.val (.int .i64 v2.1.Qty)), (.val (.int .i64 v2.1.Price)), (.val (.int .i64 v2.1.Filled)), (.val (.int .i64 v2.1.Phase)), (.val (.int .i64 v2.1.NewQty)), (.val (.int .i64 v2.1.NewPrice)), (.val (.int .i64 v2.1.Version)), (.val (.bool v2.1.Asked))])), ([1003], (.box [(.val (.int .i64 v10.1.Id)), (.val (.int .i64 v10.1.Account)), (.val (.int .i64 v10.1.Symbol)), (.val (.int .i64 v10.1.Side)), (.val (.int .i64 v10.1.Qty)), (.val (.int .i64 v10.1.Price)), (.val (.int .i64 v10.1.Filled)), (.val (.int .i64 v10.1.Phase)), (.val (.int .i64 v10.1.NewQty)), (.val (.int .i64 v10.1.NewPrice)), (.val (.int .i64 v10.1.Version)), (.val (.bool v10.1.Asked))])), ([1004], (.box [(.val (.int .i64 v11.1.Id)), (.val (.int .i64 v11.1.Account)), (.val (.int .i64 v11.1.Symbol)), (.val (.int .i64 v11.1.Side)), (.val (.int .i64 v11.1.Qty)), (.val (.int .i64 v11.1.Price)), (.val (.int .i64 v11.1.Filled)), (.val (.int .i64 v11.1.Phase)), (.val (.int .i64 v11.1.NewQty)), (.val (.int .i64 v11.1.NewPrice)), (.val (.int .i64 v11.1.Version)), (.val (.bool v11.1.Asked))]))]) (by kernel_rfl) (by kernel_rfl) (by kernel_rfl) rfl (by kernel_rfl) (by kernel_rfl) (by kernel_rfl) (by kernel_rfl)) rfl ?_
      refine G_op [0] (v := (.val (.int .i64 v11.2))) (E_p (by kernel_rfl)) rfl rfl ?_
      refine G_nil ?_
      refine G_then ?_
      refine G_seq ?_
      refine G_region ?_
      refine G_op [0] (v := (.agg [(.val (.int .i64 v11.1.Id)), (.val (.int .i64 v11.1.Account)), (.val (.int .i64 v11.1.Symbol)), (.val (.int .i64 v11.1.Side)), (.val (.int .i64 v11.1.Qty)), (.val (.int .i64 v11.1.Price)), (.val (.int .i64 v11.1.Filled)), (.val (.int .i64 v11.1.Phase)), (.val (.int .i64 v11.1.NewQty)), (.val (.int .i64 v11.1.NewPrice)), (.val (.int .i64 v11.1.Version)), (.val (.bool v11.1.Asked))])) (E_load (by kernel_rfl)) rfl rfl ?_
      refine G_op [0] (v := (.box [1001] 1)) (E_p (by kernel_rfl)) rfl rfl ?_
      refine G_op [0] (v := (.val (.int .i64 p_r.Order))) (E_load (by kernel_rfl)) rfl rfl ?_
      refine G_op [0] (v := (.agg [(.val (.int .i64 2)), (.val (.int .i64 4)), (.val (.int .i64 p_r.Order)), (.val (.int .i64 0)), (.val (.int .i64 0))])) (E_p (by kernel_rfl)) rfl rfl ?_
      refine q_bind fun v12 hv12 => ?_
      refine G_op [0] (v := (.val (.tup [(.agg [(.int .i64 v12.1.Id), (.int .i64 v12.1.Account), (.int .i64 v12.1.Symbol), (.int .i64 v12.1.Side), (.int .i64 v12.1.Qty), (.int .i64 v12.1.Price), (.int .i64 v12.1.Filled), (.int .i64 v12.1.Phase), (.int .i64 v12.1.NewQty), (.int .i64 v12.1.NewPrice), (.int .i64 v12.1.Version), (.bool v12.1.Asked)]), (.int .i64 v12.2)]))) (E_call (ds := [.agg (e_OrderT v11.1), .agg (e_NoteT (NoteT.mk 2 4 p_r.Order 0 0))]) (r := .tup [.agg (e_OrderT v12.1), .int .i64 v12.2]) hc43 (by kernel_rfl) ((hs43 v11.1 (NoteT.mk 2 4 p_r.Order 0 0) _ (by kernel_rfl)).trans (congrArg _ hv12))) rfl rfl ?_
      refine G_op [0] (v := (.val (.tup [(.agg [(.int .i64 v12.1.Id), (.int .i64 v12.1.Account), (.int .i64 v12.1.Symbol), (.int .i64 v12.1.Side), (.int .i64 v12.1.Qty), (.int .i64 v12.1.Price), (.int .i64 v12.1.Filled), (.int .i64 v12.1.Phase), (.int .i64 v12.1.NewQty), (.int .i64 v12.1.NewPrice), (.int .i64 v12.1.Version), (.bool v12.1.Asked)]), (.int .i64 v12.2)]))) (E_p (by kernel_rfl)) rfl rfl ?_
      refine G_op [0] (v := (.val (.agg [(.int .i64 v12.1.Id), (.int .i64 v12.1.Account), (.int .i64 v12.1.Symbol), (.int .i64 v12.1.Side), (.int .i64 v12.1.Qty), (.int .i64 v12.1.Price), (.int .i64 v12.1.Filled), (.int .i64 v12.1.Phase), (.int .i64 v12.1.NewQty), (.int .i64 v12.1.NewPrice), (.int .i64 v12.1.Version), (.bool v12.1.Asked)]))) (E_p (by kernel_rfl)) rfl rfl ?_
      refine G_op [0] (v := (.val (.int .i64 v12.2))) (E_p (by kernel_rfl)) rfl rfl ?_
      refine G_op [1005] (v := (.box [1005] 0)) (E_a (u := (.box [1005] 0)) (b := (.box [(.val (.int .i64 0)), (.val (.int .i64 0)), (.val (.int .i64 0)), (.val (.int .i64 0)), (.val (.int .i64 0)), (.val (.int .i64 0)), (.val (.int .i64 0)), (.val (.int .i64 0)), (.val (.int .i64 0)), (.val (.int .i64 0)), (.val (.int .i64 0)), (.val (.bool false))])) (h' := [([1001], (.box [(.val (.int .i64 p_r.Kind)), (.val (.int .i64 p_r.Order)), (.val (.int .i64 p_r.Account)), (.val (.int .i64 p_r.Symbol)), (.val (.int .i64 p_r.Side)), (.val (.int .i64 p_r.Qty)), (.val (.int .i64 p_r.Price)), (.val (.int .i64 p_r.Long)), (.val (.int .i64 p_r.Short)), (.val (.int .i64 p_r.Open)), (.val (.bool p_r.On)), (.val (.int .i64 p_r.Seq)), (.val (.int .i64 p_r.What))])), ([1002], (.box [(.val (.int .i64 v2.1.Id)), (.val (.int .i64 v2.1.Account)), (.val (.int .i64 v2.1.Symbol)), (.val (.int .i64 v2.1.Side)), (.val (.int .i64 v2.1.Qty)), (.val (.int .i64 v2.1.Price)), (.val (.int .i64 v2.1.Filled)), (.val (.int .i64 v2.1.Phase)), (.val (.int .i64 v2.1.NewQty)), (.val (.int .i64 v2.1.NewPrice)), (.val (.int .i64 v2.1.Version)), (.val (.bool v2.1.Asked))])), ([1003], (.box [(.val (.int .i64 v10.1.Id)), (.val (.int .i64 v10.1.Account)), (.val (.int .i64 v10.1.Symbol)), (.val (.int .i64 v10.1.Side)), (.val (.int .i64 v10.1.Qty)), (.val (.int .i64 v10.1.Price)), (.val (.int .i64 v10.1.Filled)), (.val (.int .i64 v10.1.Phase)), (.val (.int .i64 v10.1.NewQty)), (.val (.int .i64 v10.1.NewPrice)), (.val (.int .i64 v10.1.Version)), (.val (.bool v10.1.Asked))])), ([1004], (.box [(.val (.int .i64 v11.1.Id)), (.val (.int .i64 v11.1.Account)), (.val (.int .i64 v11.1.Symbol)), (.val (.int .i64 v11.1.Side)), (.val (.int .i64 v11.1.Qty)), (.val (.int .i64 v11.1.Price)), (.val (.int .i64 v11.1.Filled)), (.val (.int .i64 v11.1.Phase)), (.val (.int .i64 v11.1.NewQty)), (.val (.int .i64 v11.1.NewPrice)), (.val (.int .i64 v11.1.Version)), (.val (.bool v11.1.Asked))])), ([1005], (.box [(.val (.int .i64 0)), (.val (.int .i64 0)), (.val (.int .i64 0)), (.val (.int .i64 0)), (.val (.int .i64 0)), (.val (.int .i64 0)), (.val (.int .i64 0)), (.val (.int .i64 0)), (.val (.int .i64 0)), (.val (.int .i64 0)), (.val (.int .i64 0)), (.val (.bool false))]))]) (by kernel_rfl) (by kernel_rfl) (by kernel_rfl)) rfl rfl ?_
      refine G_op0 [0] (v := (.val (.tup []))) (E_store (b := [1005]) (o := 0) (cs := [(.val (.int .i64 v12.1.Id)), (.val (.int .i64 v12.1.Account)), (.val (.int .i64 v12.1.Symbol)), (.val (.int .i64 v12.1.Side)), (.val (.int .i64 v12.1.Qty)), (.val (.int .i64 v12.1.Price)), (.val (.int .i64 v12.1.Filled)), (.val (.int .i64 v12.1.Phase)), (.val (.int .i64 v12.1.NewQty)), (.val (.int .i64 v12.1.NewPrice)), (.val (.int .i64 v12.1.Version)), (.val (.bool v12.1.Asked))]) (cells := [(.val (.int .i64 0)), (.val (.int .i64 0)), (.val (.int .i64 0)), (.val (.int .i64 0)), (.val (.int .i64 0)), (.val (.int .i64 0)), (.val (.int .i64 0)), (.val (.int .i64 0)), (.val (.int .i64 0)), (.val (.int .i64 0)), (.val (.int .i64 0)), (.val (.bool false))]) (cells' := [(.val (.int .i64 v12.1.Id)), (.val (.int .i64 v12.1.Account)), (.val (.int .i64 v12.1.Symbol)), (.val (.int .i64 v12.1.Side)), (.val (.int .i64 v12.1.Qty)), (.val (.int .i64 v12.1.Price)), (.val (.int .i64 v12.1.Filled)), (.val (.int .i64 v12.1.Phase)), (.val (.int .i64 v12.1.NewQty)), (.val (.int .i64 v12.1.NewPrice)), (.val (.int .i64 v12.1.Version)), (.val (.bool v12.1.Asked))]) (h' := [([1001], (.box [(.val (.int .i64 p_r.Kind)), (.val (.int .i64 p_r.Order)), (.val (.int .i64 p_r.Account)), (.val (.int .i64 p_r.Symbol)), (.val (.int .i64 p_r.Side)), (.val (.int .i64 p_r.Qty)), (.val (.int .i64 p_r.Price)), (.val (.int .i64 p_r.Long)), (.val (.int .i64 p_r.Short)), (.val (.int .i64 p_r.Open)), (.val (.bool p_r.On)), (.val (.int .i64 p_r.Seq)), (.val (.int .i64 p_r.What))])), ([1002], (.box [(.val (.int .i64 v2.1.Id)), (.val (.int .i64 v2.1.Account)), (.val (.int .i64 v2.1.Symbol)), (.val (.int .i64 v2.1.Side)), (.val (.int .i64 v2.1.Qty)), (.val (.int .i64 v2.1.Price)), (.val (.int .i64 v2.1.Filled)), (.val (.int .i64 v2.1.Phase)), (.val (.int .i64 v2.1.NewQty)), (.val (.int .i64 v2.1.NewPrice)), (.val (.int .i64 v2.1.Version)), (.val (.bool v2.1.Asked))])), ([1003], (.box [(.val (.int .i64 v10.1.Id)), (.val (.int .i64 v10.1.Account)), (.val (.int .i64 v10.1.Symbol)), (.val (.int .i64 v10.1.Side)), (.val (.int .i64 v10.1.Qty)), (.val (.int .i64 v10.1.Price)), (.val (.int .i64 v10.1.Filled)), (.val (.int .i64 v10.1.Phase)), (.val (.int .i64 v10.1.NewQty)), (.val (.int .i64 v10.1.NewPrice)), (.val (.int .i64 v10.1.Version)), (.val (.bool v10.1.Asked))])), ([1004], (.box [(.val (.int .i64 v11.1.Id)), (.val (.int .i64 v11.1.Account)), (.val (.int .i64 v11.1.Symbol)), (.val (.int .i64 v11.1.Side)), (.val (.int .i64 v11.1.Qty)), (.val (.int .i64 v11.1.Price)), (.val (.int .i64 v11.1.Filled)), (.val (.int .i64 v11.1.Phase)), (.val (.int .i64 v11.1.NewQty)), (.val (.int .i64 v11.1.NewPrice)), (.val (.int .i64 v11.1.Version)), (.val (.bool v11.1.Asked))])), ([1005], (.box [(.val (.int .i64 v12.1.Id)), (.val (.int .i64 v12.1.Account)), (.val (.int .i64 v12.1.Symbol)), (.val (.int .i64 v12.1.Side)), (.val (.int .i64 v12.1.Qty)), (.val (.int .i64 v12.1.Price)), (.val (.int .i64 v12.1.Filled)), (.val (.int .i64 v12.1.Phase)), (.val (.int .i64 v12.1.NewQty)), (.val (.int .i64 v12.1.NewPrice)), (.val (.int .i64 v12.1.Version)), (.val (.bool v12.1.Asked))]))]) (by kernel_rfl) (by kernel_rfl) (by kernel_rfl) rfl (by kernel_rfl) (by kernel_rfl) (by kernel_rfl) (by kernel_rfl)) rfl ?_
      refine G_op [0] (v := (.val (.int .i64 v12.2))) (E_p (by kernel_rfl)) rfl rfl ?_
      refine G_nil ?_
      refine G_then ?_
      refine G_subW (s0 := ⟨⟨110, [(10, (.val (.int .i64 v12.2))), (9, (.box [1005] 0)), (8, (.val (.int .i64 v11.2))), (7, (.box [1004] 0)), (6, (.val (.int .i64 v10.2))), (5, (.box [1003] 0)), (3, (.box [1002] 0)), (2, (.val (.bool false))), (1, (.box [1001] 0))]⟩, mkH [([1001], (.box [(.val (.int .i64 p_r.Kind)), (.val (.int .i64 p_r.Order)), (.val (.int .i64 p_r.Account)), (.val (.int .i64 p_r.Symbol)), (.val (.int .i64 p_r.Side)), (.val (.int .i64 p_r.Qty)), (.val (.int .i64 p_r.Price)), (.val (.int .i64 p_r.Long)), (.val (.int .i64 p_r.Short)), (.val (.int .i64 p_r.Open)), (.val (.bool p_r.On)), (.val (.int .i64 p_r.Seq)), (.val (.int .i64 p_r.What))])), ([1002], (.box [(.val (.int .i64 v2.1.Id)), (.val (.int .i64 v2.1.Account)), (.val (.int .i64 v2.1.Symbol)), (.val (.int .i64 v2.1.Side)), (.val (.int .i64 v2.1.Qty)), (.val (.int .i64 v2.1.Price)), (.val (.int .i64 v2.1.Filled)), (.val (.int .i64 v2.1.Phase)), (.val (.int .i64 v2.1.NewQty)), (.val (.int .i64 v2.1.NewPrice)), (.val (.int .i64 v2.1.Version)), (.val (.bool v2.1.Asked))])), ([1003], (.box [(.val (.int .i64 v10.1.Id)), (.val (.int .i64 v10.1.Account)), (.val (.int .i64 v10.1.Symbol)), (.val (.int .i64 v10.1.Side)), (.val (.int .i64 v10.1.Qty)), (.val (.int .i64 v10.1.Price)), (.val (.int .i64 v10.1.Filled)), (.val (.int .i64 v10.1.Phase)), (.val (.int .i64 v10.1.NewQty)), (.val (.int .i64 v10.1.NewPrice)), (.val (.int .i64 v10.1.Version)), (.val (.bool v10.1.Asked))])), ([1004], (.box [(.val (.int .i64 v11.1.Id)), (.val (.int .i64 v11.1.Account)), (.val (.int .i64 v11.1.Symbol)), (.val (.int .i64 v11.1.Side)), (.val (.int .i64 v11.1.Qty)), (.val (.int .i64 v11.1.Price)), (.val (.int .i64 v11.1.Filled)), (.val (.int .i64 v11.1.Phase)), (.val (.int .i64 v11.1.NewQty)), (.val (.int .i64 v11.1.NewPrice)), (.val (.int .i64 v11.1.Version)), (.val (.bool v11.1.Asked))])), ([1005], (.box [(.val (.int .i64 v12.1.Id)), (.val (.int .i64 v12.1.Account)), (.val (.int .i64 v12.1.Symbol)), (.val (.int .i64 v12.1.Side)), (.val (.int .i64 v12.1.Qty)), (.val (.int .i64 v12.1.Price)), (.val (.int .i64 v12.1.Filled)), (.val (.int .i64 v12.1.Phase)), (.val (.int .i64 v12.1.NewQty)), (.val (.int .i64 v12.1.NewPrice)), (.val (.int .i64 v12.1.Version)), (.val (.bool v12.1.Asked))]))]⟩) (by exact Sub_env ⟨.refl _, .refl _, .refl _, .refl _, .refl _, .refl _, .refl _, .refl _, .refl _, trivial⟩) ?_
      refine G_seq ?_
      refine G_join (st := fun j13 => ⟨⟨110, [(2, (.val (.bool j13)))]⟩, mkH []⟩) (fun j13 => ?_) (fun r14 hr14 => ?_)
      · refine G_then ?_
        refine G_ret ?_
        refine G_retR ?_
        refine q_some fun hA => ?_
        show outV _ _ = some _
        kernel_rfl
      · refine G_draw ?_
        refine X_op (w := (.agg [(.val (.int .i64 v2.1.Id)), (.val (.int .i64 v2.1.Account)), (.val (.int .i64 v2.1.Symbol)), (.val (.int .i64 v2.1.Side)), (.val (.int .i64 v2.1.Qty)), (.val (.int .i64 v2.1.Price)), (.val (.int .i64 v2.1.Filled)), (.val (.int .i64 v2.1.Phase)), (.val (.int .i64 v2.1.NewQty)), (.val (.int .i64 v2.1.NewPrice)), (.val (.int .i64 v2.1.Version)), (.val (.bool v2.1.Asked))])) (v := (.agg [(.val (.int .i64 v2.1.Id)), (.val (.int .i64 v2.1.Account)), (.val (.int .i64 v2.1.Symbol)), (.val (.int .i64 v2.1.Side)), (.val (.int .i64 v2.1.Qty)), (.val (.int .i64 v2.1.Price)), (.val (.int .i64 v2.1.Filled)), (.val (.int .i64 v2.1.Phase)), (.val (.int .i64 v2.1.NewQty)), (.val (.int .i64 v2.1.NewPrice)), (.val (.int .i64 v2.1.Version)), (.val (.bool v2.1.Asked))])) (E_load (by kernel_rfl)) rfl rfl rfl ?_
        refine q_bind fun v15 hv15 => ?_
        refine X_op (w := (.val (.bool v15))) (v := (.val (.bool v15))) (E_callX (ds := [.agg (e_OrderT v2.1)]) (ids := []) (r := .bool v15) hc41 (by kernel_rfl) ((hs41 v2.1 _ (by kernel_rfl)).trans (congrArg _ hv15)) (by kernel_rfl)) rfl rfl rfl ?_
        refine X_op (w := (.val (.bool v15))) (v := (.val (.bool v15))) (E_p (by kernel_rfl)) rfl rfl rfl ?_
        refine q_bif (fun h16 => ?_) (fun h16 => ?_)
        · refine X_lit (t := 59) (v := true) rfl h16 ?_
          refine X_op (w := (.may true (.box [1002] 7))) (v := (.box [1002] 7)) (E_p (by kernel_rfl)) rfl rfl rfl ?_
          refine X_op (w := (.may true (.val (.int .i64 v2.1.Phase)))) (v := (.val (.int .i64 v2.1.Phase))) (E_load (by kernel_rfl)) rfl rfl rfl ?_
          refine X_op (w := (.may true (.val (.bool (v2.1.Phase == 1))))) (v := (.val (.bool (v2.1.Phase == 1)))) (E_p (by kernel_rfl)) rfl rfl rfl ?_
          refine X_op (w := (.val (.bool (v2.1.Phase == 1)))) (v := (.val (.bool (v2.1.Phase == 1)))) (E_pickT (by kernel_rfl) (by kernel_rfl)) rfl rfl rfl ?_
          refine X_op (w := (.val (.bool (v2.1.Phase == 1)))) (v := (.val (.bool (v2.1.Phase == 1)))) (E_p (by kernel_rfl)) rfl rfl rfl ?_
          refine q_bif (fun h17 => ?_) (fun h17 => ?_)
          · refine X_lit (t := 64) (v := true) rfl h17 ?_
            refine X_op (w := (.may true (.agg [(.val (.int .i64 v2.1.Id)), (.val (.int .i64 v2.1.Account)), (.val (.int .i64 v2.1.Symbol)), (.val (.int .i64 v2.1.Side)), (.val (.int .i64 v2.1.Qty)), (.val (.int .i64 v2.1.Price)), (.val (.int .i64 v2.1.Filled)), (.val (.int .i64 v2.1.Phase)), (.val (.int .i64 v2.1.NewQty)), (.val (.int .i64 v2.1.NewPrice)), (.val (.int .i64 v2.1.Version)), (.val (.bool v2.1.Asked))]))) (v := (.agg [(.val (.int .i64 v2.1.Id)), (.val (.int .i64 v2.1.Account)), (.val (.int .i64 v2.1.Symbol)), (.val (.int .i64 v2.1.Side)), (.val (.int .i64 v2.1.Qty)), (.val (.int .i64 v2.1.Price)), (.val (.int .i64 v2.1.Filled)), (.val (.int .i64 v2.1.Phase)), (.val (.int .i64 v2.1.NewQty)), (.val (.int .i64 v2.1.NewPrice)), (.val (.int .i64 v2.1.Version)), (.val (.bool v2.1.Asked))])) (E_load (by kernel_rfl)) rfl rfl rfl ?_
            refine q_bind fun v18 hv18 => ?_
            refine X_op (w := (.val (.int .i64 v18))) (v := (.val (.int .i64 v18))) (E_callX (ds := [.agg (e_OrderT v2.1)]) (ids := []) (r := .int .i64 v18) hc37 (by kernel_rfl) ((hs37 v2.1 _ (by kernel_rfl)).trans (congrArg _ hv18)) (by kernel_rfl)) rfl rfl rfl ?_
            refine X_op (w := (.may true (.box [1001] 5))) (v := (.box [1001] 5)) (E_p (by kernel_rfl)) rfl rfl rfl ?_
            refine X_op (w := (.may true (.val (.int .i64 p_r.Qty)))) (v := (.val (.int .i64 p_r.Qty))) (E_load (by kernel_rfl)) rfl rfl rfl ?_
            refine X_op (w := (.may true (.val (.bool (v18 == p_r.Qty))))) (v := (.val (.bool (v18 == p_r.Qty)))) (E_p (by kernel_rfl)) rfl rfl rfl ?_
            refine X_op (w := (.val (.bool (v18 == p_r.Qty)))) (v := (.val (.bool (v18 == p_r.Qty)))) (E_pickT (by kernel_rfl) (by kernel_rfl)) rfl rfl rfl ?_
            refine X_op (w := (.val (.bool (v18 == p_r.Qty)))) (v := (.val (.bool (v18 == p_r.Qty)))) (E_p (by kernel_rfl)) rfl rfl rfl ?_
            refine q_bif (fun h19 => ?_) (fun h19 => ?_)
            · refine X_lit (t := 71) (v := true) rfl h19 ?_
              refine X_op (w := (.may true (.val (.int .i64 v10.2)))) (v := (.val (.int .i64 v10.2))) (E_p (by kernel_rfl)) rfl rfl rfl ?_
              refine X_op (w := (.may true (.val (.bool (v10.2 == 0))))) (v := (.val (.bool (v10.2 == 0)))) (E_p (by kernel_rfl)) rfl rfl rfl ?_
              refine X_op (w := (.val (.bool (v10.2 == 0)))) (v := (.val (.bool (v10.2 == 0)))) (E_pickT (by kernel_rfl) (by kernel_rfl)) rfl rfl rfl ?_
              refine X_op (w := (.val (.bool (v10.2 == 0)))) (v := (.val (.bool (v10.2 == 0)))) (E_p (by kernel_rfl)) rfl rfl rfl ?_
              refine q_bif (fun h20 => ?_) (fun h20 => ?_)
              · refine X_lit (t := 75) (v := true) rfl h20 ?_
                refine X_op (w := (.may true (.box [1003] 7))) (v := (.box [1003] 7)) (E_p (by kernel_rfl)) rfl rfl rfl ?_
                refine X_op (w := (.may true (.val (.int .i64 v10.1.Phase)))) (v := (.val (.int .i64 v10.1.Phase))) (E_load (by kernel_rfl)) rfl rfl rfl ?_
                refine X_op (w := (.may true (.val (.bool (v10.1.Phase == 3))))) (v := (.val (.bool (v10.1.Phase == 3)))) (E_p (by kernel_rfl)) rfl rfl rfl ?_
                refine X_op (w := (.val (.bool (v10.1.Phase == 3)))) (v := (.val (.bool (v10.1.Phase == 3)))) (E_pickT (by kernel_rfl) (by kernel_rfl)) rfl rfl rfl ?_
                refine X_op (w := (.val (.bool (v10.1.Phase == 3)))) (v := (.val (.bool (v10.1.Phase == 3)))) (E_p (by kernel_rfl)) rfl rfl rfl ?_
                refine q_bif (fun h21 => ?_) (fun h21 => ?_)
                · refine X_lit (t := 80) (v := true) rfl h21 ?_
                  refine X_op (w := (.may true (.agg [(.val (.int .i64 v10.1.Id)), (.val (.int .i64 v10.1.Account)), (.val (.int .i64 v10.1.Symbol)), (.val (.int .i64 v10.1.Side)), (.val (.int .i64 v10.1.Qty)), (.val (.int .i64 v10.1.Price)), (.val (.int .i64 v10.1.Filled)), (.val (.int .i64 v10.1.Phase)), (.val (.int .i64 v10.1.NewQty)), (.val (.int .i64 v10.1.NewPrice)), (.val (.int .i64 v10.1.Version)), (.val (.bool v10.1.Asked))]))) (v := (.agg [(.val (.int .i64 v10.1.Id)), (.val (.int .i64 v10.1.Account)), (.val (.int .i64 v10.1.Symbol)), (.val (.int .i64 v10.1.Side)), (.val (.int .i64 v10.1.Qty)), (.val (.int .i64 v10.1.Price)), (.val (.int .i64 v10.1.Filled)), (.val (.int .i64 v10.1.Phase)), (.val (.int .i64 v10.1.NewQty)), (.val (.int .i64 v10.1.NewPrice)), (.val (.int .i64 v10.1.Version)), (.val (.bool v10.1.Asked))])) (E_load (by kernel_rfl)) rfl rfl rfl ?_
                  refine q_bind fun v22 hv22 => ?_
                  refine X_op (w := (.val (.int .i64 v22))) (v := (.val (.int .i64 v22))) (E_callX (ds := [.agg (e_OrderT v10.1)]) (ids := []) (r := .int .i64 v22) hc37 (by kernel_rfl) ((hs37 v10.1 _ (by kernel_rfl)).trans (congrArg _ hv22)) (by kernel_rfl)) rfl rfl rfl ?_
                  refine X_op (w := (.may true (.val (.bool (v22 == 0))))) (v := (.val (.bool (v22 == 0)))) (E_p (by kernel_rfl)) rfl rfl rfl ?_
                  refine X_op (w := (.val (.bool (v22 == 0)))) (v := (.val (.bool (v22 == 0)))) (E_pickT (by kernel_rfl) (by kernel_rfl)) rfl rfl rfl ?_
                  refine X_op (w := (.val (.bool (v22 == 0)))) (v := (.val (.bool (v22 == 0)))) (E_p (by kernel_rfl)) rfl rfl rfl ?_
                  refine q_bif (fun h23 => ?_) (fun h23 => ?_)
                  · refine X_lit (t := 85) (v := true) rfl h23 ?_
                    refine X_op (w := (.may true (.val (.int .i64 v11.2)))) (v := (.val (.int .i64 v11.2))) (E_p (by kernel_rfl)) rfl rfl rfl ?_
                    refine X_op (w := (.may true (.val (.bool (v11.2 == 0))))) (v := (.val (.bool (v11.2 == 0)))) (E_p (by kernel_rfl)) rfl rfl rfl ?_
                    refine X_op (w := (.val (.bool (v11.2 == 0)))) (v := (.val (.bool (v11.2 == 0)))) (E_pickT (by kernel_rfl) (by kernel_rfl)) rfl rfl rfl ?_
                    refine X_op (w := (.val (.bool (v11.2 == 0)))) (v := (.val (.bool (v11.2 == 0)))) (E_p (by kernel_rfl)) rfl rfl rfl ?_
                    refine q_bif (fun h24 => ?_) (fun h24 => ?_)
                    · refine X_lit (t := 89) (v := true) rfl h24 ?_
                      refine X_op (w := (.may true (.agg [(.val (.int .i64 v11.1.Id)), (.val (.int .i64 v11.1.Account)), (.val (.int .i64 v11.1.Symbol)), (.val (.int .i64 v11.1.Side)), (.val (.int .i64 v11.1.Qty)), (.val (.int .i64 v11.1.Price)), (.val (.int .i64 v11.1.Filled)), (.val (.int .i64 v11.1.Phase)), (.val (.int .i64 v11.1.NewQty)), (.val (.int .i64 v11.1.NewPrice)), (.val (.int .i64 v11.1.Version)), (.val (.bool v11.1.Asked))]))) (v := (.agg [(.val (.int .i64 v11.1.Id)), (.val (.int .i64 v11.1.Account)), (.val (.int .i64 v11.1.Symbol)), (.val (.int .i64 v11.1.Side)), (.val (.int .i64 v11.1.Qty)), (.val (.int .i64 v11.1.Price)), (.val (.int .i64 v11.1.Filled)), (.val (.int .i64 v11.1.Phase)), (.val (.int .i64 v11.1.NewQty)), (.val (.int .i64 v11.1.NewPrice)), (.val (.int .i64 v11.1.Version)), (.val (.bool v11.1.Asked))])) (E_load (by kernel_rfl)) rfl rfl rfl ?_
                      refine q_bind fun v25 hv25 => ?_
                      refine X_op (w := (.val (.int .i64 v25))) (v := (.val (.int .i64 v25))) (E_callX (ds := [.agg (e_OrderT v11.1)]) (ids := []) (r := .int .i64 v25) hc37 (by kernel_rfl) ((hs37 v11.1 _ (by kernel_rfl)).trans (congrArg _ hv25)) (by kernel_rfl)) rfl rfl rfl ?_
                      refine X_op (w := (.may true (.box [1001] 5))) (v := (.box [1001] 5)) (E_p (by kernel_rfl)) rfl rfl rfl ?_
                      refine X_op (w := (.may true (.val (.int .i64 p_r.Qty)))) (v := (.val (.int .i64 p_r.Qty))) (E_load (by kernel_rfl)) rfl rfl rfl ?_
                      refine X_op (w := (.may true (.val (.bool (v25 == p_r.Qty))))) (v := (.val (.bool (v25 == p_r.Qty)))) (E_p (by kernel_rfl)) rfl rfl rfl ?_
                      refine X_op (w := (.val (.bool (v25 == p_r.Qty)))) (v := (.val (.bool (v25 == p_r.Qty)))) (E_pickT (by kernel_rfl) (by kernel_rfl)) rfl rfl rfl ?_
                      refine X_op (w := (.val (.bool (v25 == p_r.Qty)))) (v := (.val (.bool (v25 == p_r.Qty)))) (E_p (by kernel_rfl)) rfl rfl rfl ?_
                      refine q_bif (fun h26 => ?_) (fun h26 => ?_)
                      · refine X_lit (t := 96) (v := true) rfl h26 ?_
                        refine X_op (w := (.may true (.val (.int .i64 v12.2)))) (v := (.val (.int .i64 v12.2))) (E_p (by kernel_rfl)) rfl rfl rfl ?_
                        refine X_op (w := (.may true (.val (.bool (v12.2 == 0))))) (v := (.val (.bool (v12.2 == 0)))) (E_p (by kernel_rfl)) rfl rfl rfl ?_
                        refine X_op (w := (.val (.bool (v12.2 == 0)))) (v := (.val (.bool (v12.2 == 0)))) (E_pickT (by kernel_rfl) (by kernel_rfl)) rfl rfl rfl ?_
                        refine X_op (w := (.val (.bool (v12.2 == 0)))) (v := (.val (.bool (v12.2 == 0)))) (E_p (by kernel_rfl)) rfl rfl rfl ?_
                        refine q_bif (fun h27 => ?_) (fun h27 => ?_)
                        · refine X_lit (t := 100) (v := true) rfl h27 ?_
                          refine X_op (w := (.may true (.box [1005] 7))) (v := (.box [1005] 7)) (E_p (by kernel_rfl)) rfl rfl rfl ?_
                          refine X_op (w := (.may true (.val (.int .i64 v12.1.Phase)))) (v := (.val (.int .i64 v12.1.Phase))) (E_load (by kernel_rfl)) rfl rfl rfl ?_
                          refine X_op (w := (.may true (.val (.bool (v12.1.Phase == 3))))) (v := (.val (.bool (v12.1.Phase == 3)))) (E_p (by kernel_rfl)) rfl rfl rfl ?_
                          refine X_op (w := (.val (.bool (v12.1.Phase == 3)))) (v := (.val (.bool (v12.1.Phase == 3)))) (E_pickT (by kernel_rfl) (by kernel_rfl)) rfl rfl rfl ?_
                          refine X_op (w := (.val (.bool (v12.1.Phase == 3)))) (v := (.val (.bool (v12.1.Phase == 3)))) (E_p (by kernel_rfl)) rfl rfl rfl ?_
                          refine q_bif (fun h28 => ?_) (fun h28 => ?_)
                          · refine X_lit (t := 105) (v := true) rfl h28 ?_
                            refine X_op (w := (.may true (.agg [(.val (.int .i64 v12.1.Id)), (.val (.int .i64 v12.1.Account)), (.val (.int .i64 v12.1.Symbol)), (.val (.int .i64 v12.1.Side)), (.val (.int .i64 v12.1.Qty)), (.val (.int .i64 v12.1.Price)), (.val (.int .i64 v12.1.Filled)), (.val (.int .i64 v12.1.Phase)), (.val (.int .i64 v12.1.NewQty)), (.val (.int .i64 v12.1.NewPrice)), (.val (.int .i64 v12.1.Version)), (.val (.bool v12.1.Asked))]))) (v := (.agg [(.val (.int .i64 v12.1.Id)), (.val (.int .i64 v12.1.Account)), (.val (.int .i64 v12.1.Symbol)), (.val (.int .i64 v12.1.Side)), (.val (.int .i64 v12.1.Qty)), (.val (.int .i64 v12.1.Price)), (.val (.int .i64 v12.1.Filled)), (.val (.int .i64 v12.1.Phase)), (.val (.int .i64 v12.1.NewQty)), (.val (.int .i64 v12.1.NewPrice)), (.val (.int .i64 v12.1.Version)), (.val (.bool v12.1.Asked))])) (E_load (by kernel_rfl)) rfl rfl rfl ?_
                            refine q_bind fun v29 hv29 => ?_
                            refine X_op (w := (.val (.int .i64 v29))) (v := (.val (.int .i64 v29))) (E_callX (ds := [.agg (e_OrderT v12.1)]) (ids := []) (r := .int .i64 v29) hc37 (by kernel_rfl) ((hs37 v12.1 _ (by kernel_rfl)).trans (congrArg _ hv29)) (by kernel_rfl)) rfl rfl rfl ?_
                            refine X_op (w := (.may true (.val (.bool (v29 == 0))))) (v := (.val (.bool (v29 == 0)))) (E_p (by kernel_rfl)) rfl rfl rfl ?_
                            refine X_op (w := (.val (.bool (v29 == 0)))) (v := (.val (.bool (v29 == 0)))) (E_pickT (by kernel_rfl) (by kernel_rfl)) rfl rfl rfl ?_
                            refine X_op (w := (.val (.bool (v29 == 0)))) (v := (.val (.bool (v29 == 0)))) (E_p (by kernel_rfl)) rfl rfl rfl ?_
                            refine X_nil (m := [(2, (.val (.bool (v29 == 0))))]) (by exact ⟨rfl, trivial⟩) ?_
                            exact q_some fun h => (QN_then : QN _ _) _ _ (by exact Sub_keep ⟨.refl _, trivial⟩ trivial (by kernel_rfl) (by kernel_rfl)) h
                          · refine X_lit (t := 105) (v := false) rfl h28 ?_
                            refine X_off (v := (.agg [(.val (.int .i64 v12.1.Id)), (.val (.int .i64 v12.1.Account)), (.val (.int .i64 v12.1.Symbol)), (.val (.int .i64 v12.1.Side)), (.val (.int .i64 v12.1.Qty)), (.val (.int .i64 v12.1.Price)), (.val (.int .i64 v12.1.Filled)), (.val (.int .i64 v12.1.Phase)), (.val (.int .i64 v12.1.NewQty)), (.val (.int .i64 v12.1.NewPrice)), (.val (.int .i64 v12.1.Version)), (.val (.bool v12.1.Asked))])) (by rfl) (by rfl) (E_load (by kernel_rfl)) rfl rfl ?_
                            refine X_offC (by rfl) rfl rfl ?_
                            refine X_offN (by rfl) (by rfl) (by kernel_rfl) rfl rfl ?_
                            refine X_op (w := (.val (.bool false))) (v := (.val (.bool false))) (E_pickF (by kernel_rfl) (by kernel_rfl)) rfl rfl rfl ?_
                            refine X_op (w := (.val (.bool false))) (v := (.val (.bool false))) (E_p (by kernel_rfl)) rfl rfl rfl ?_
                            refine X_nil (m := [(2, (.val (.bool false)))]) (by exact ⟨rfl, trivial⟩) ?_
                            exact q_some fun h => (QN_then : QN _ _) _ _ (by exact Sub_keep ⟨.refl _, trivial⟩ trivial (by kernel_rfl) (by kernel_rfl)) h
                        · refine X_lit (t := 100) (v := false) rfl h27 ?_
                          refine X_off (v := (.box [1005] 7)) (by rfl) (by rfl) (E_p (by kernel_rfl)) rfl rfl ?_
                          refine X_off (v := (.val (.int .i64 v12.1.Phase))) (by rfl) (by rfl) (E_load (by kernel_rfl)) rfl rfl ?_
                          refine X_off (v := (.val (.bool (v12.1.Phase == 3)))) (by rfl) (by rfl) (E_p (by kernel_rfl)) rfl rfl ?_
                          refine X_op (w := (.val (.bool false))) (v := (.val (.bool false))) (E_pickF (by kernel_rfl) (by kernel_rfl)) rfl rfl rfl ?_
                          refine X_op (w := (.val (.bool false))) (v := (.val (.bool false))) (E_p (by kernel_rfl)) rfl rfl rfl ?_
                          refine X_off (v := (.agg [(.val (.int .i64 v12.1.Id)), (.val (.int .i64 v12.1.Account)), (.val (.int .i64 v12.1.Symbol)), (.val (.int .i64 v12.1.Side)), (.val (.int .i64 v12.1.Qty)), (.val (.int .i64 v12.1.Price)), (.val (.int .i64 v12.1.Filled)), (.val (.int .i64 v12.1.Phase)), (.val (.int .i64 v12.1.NewQty)), (.val (.int .i64 v12.1.NewPrice)), (.val (.int .i64 v12.1.Version)), (.val (.bool v12.1.Asked))])) (by rfl) (by rfl) (E_load (by kernel_rfl)) rfl rfl ?_
                          refine X_offC (by rfl) rfl rfl ?_
                          refine X_offN (by rfl) (by rfl) (by kernel_rfl) rfl rfl ?_
                          refine X_op (w := (.val (.bool false))) (v := (.val (.bool false))) (E_pickF (by kernel_rfl) (by kernel_rfl)) rfl rfl rfl ?_
                          refine X_op (w := (.val (.bool false))) (v := (.val (.bool false))) (E_p (by kernel_rfl)) rfl rfl rfl ?_
                          refine X_nil (m := [(2, (.val (.bool false)))]) (by exact ⟨rfl, trivial⟩) ?_
                          exact q_some fun h => (QN_then : QN _ _) _ _ (by exact Sub_keep ⟨.refl _, trivial⟩ trivial (by kernel_rfl) (by kernel_rfl)) h
                      · refine X_lit (t := 96) (v := false) rfl h26 ?_
                        refine X_off (v := (.val (.int .i64 v12.2))) (by rfl) (by rfl) (E_p (by kernel_rfl)) rfl rfl ?_
                        refine X_off (v := (.val (.bool (v12.2 == 0)))) (by rfl) (by rfl) (E_p (by kernel_rfl)) rfl rfl ?_
                        refine X_op (w := (.val (.bool false))) (v := (.val (.bool false))) (E_pickF (by kernel_rfl) (by kernel_rfl)) rfl rfl rfl ?_
                        refine X_op (w := (.val (.bool false))) (v := (.val (.bool false))) (E_p (by kernel_rfl)) rfl rfl rfl ?_
                        refine X_off (v := (.box [1005] 7)) (by rfl) (by rfl) (E_p (by kernel_rfl)) rfl rfl ?_
                        refine X_off (v := (.val (.int .i64 v12.1.Phase))) (by rfl) (by rfl) (E_load (by kernel_rfl)) rfl rfl ?_
                        refine X_off (v := (.val (.bool (v12.1.Phase == 3)))) (by rfl) (by rfl) (E_p (by kernel_rfl)) rfl rfl ?_
                        refine X_op (w := (.val (.bool false))) (v := (.val (.bool false))) (E_pickF (by kernel_rfl) (by kernel_rfl)) rfl rfl rfl ?_
                        refine X_op (w := (.val (.bool false))) (v := (.val (.bool false))) (E_p (by kernel_rfl)) rfl rfl rfl ?_
                        refine X_off (v := (.agg [(.val (.int .i64 v12.1.Id)), (.val (.int .i64 v12.1.Account)), (.val (.int .i64 v12.1.Symbol)), (.val (.int .i64 v12.1.Side)), (.val (.int .i64 v12.1.Qty)), (.val (.int .i64 v12.1.Price)), (.val (.int .i64 v12.1.Filled)), (.val (.int .i64 v12.1.Phase)), (.val (.int .i64 v12.1.NewQty)), (.val (.int .i64 v12.1.NewPrice)), (.val (.int .i64 v12.1.Version)), (.val (.bool v12.1.Asked))])) (by rfl) (by rfl) (E_load (by kernel_rfl)) rfl rfl ?_
                        refine X_offC (by rfl) rfl rfl ?_
                        refine X_offN (by rfl) (by rfl) (by kernel_rfl) rfl rfl ?_
                        refine X_op (w := (.val (.bool false))) (v := (.val (.bool false))) (E_pickF (by kernel_rfl) (by kernel_rfl)) rfl rfl rfl ?_
                        refine X_op (w := (.val (.bool false))) (v := (.val (.bool false))) (E_p (by kernel_rfl)) rfl rfl rfl ?_
                        refine X_nil (m := [(2, (.val (.bool false)))]) (by exact ⟨rfl, trivial⟩) ?_
                        exact q_some fun h => (QN_then : QN _ _) _ _ (by exact Sub_keep ⟨.refl _, trivial⟩ trivial (by kernel_rfl) (by kernel_rfl)) h
                    · refine X_lit (t := 89) (v := false) rfl h24 ?_
                      refine X_off (v := (.agg [(.val (.int .i64 v11.1.Id)), (.val (.int .i64 v11.1.Account)), (.val (.int .i64 v11.1.Symbol)), (.val (.int .i64 v11.1.Side)), (.val (.int .i64 v11.1.Qty)), (.val (.int .i64 v11.1.Price)), (.val (.int .i64 v11.1.Filled)), (.val (.int .i64 v11.1.Phase)), (.val (.int .i64 v11.1.NewQty)), (.val (.int .i64 v11.1.NewPrice)), (.val (.int .i64 v11.1.Version)), (.val (.bool v11.1.Asked))])) (by rfl) (by rfl) (E_load (by kernel_rfl)) rfl rfl ?_
                      refine X_offC (by rfl) rfl rfl ?_
                      refine X_off (v := (.box [1001] 5)) (by rfl) (by rfl) (E_p (by kernel_rfl)) rfl rfl ?_
                      refine X_off (v := (.val (.int .i64 p_r.Qty))) (by rfl) (by rfl) (E_load (by kernel_rfl)) rfl rfl ?_
                      refine X_offN (by rfl) (by rfl) (by kernel_rfl) rfl rfl ?_
                      refine X_op (w := (.val (.bool false))) (v := (.val (.bool false))) (E_pickF (by kernel_rfl) (by kernel_rfl)) rfl rfl rfl ?_
                      refine X_op (w := (.val (.bool false))) (v := (.val (.bool false))) (E_p (by kernel_rfl)) rfl rfl rfl ?_
                      refine X_off (v := (.val (.int .i64 v12.2))) (by rfl) (by rfl) (E_p (by kernel_rfl)) rfl rfl ?_
                      refine X_off (v := (.val (.bool (v12.2 == 0)))) (by rfl) (by rfl) (E_p (by kernel_rfl)) rfl rfl ?_
                      refine X_op (w := (.val (.bool false))) (v := (.val (.bool false))) (E_pickF (by kernel_rfl) (by kernel_rfl)) rfl rfl rfl ?_
                      refine X_op (w := (.val (.bool false))) (v := (.val (.bool false))) (E_p (by kernel_rfl)) rfl rfl rfl ?_
                      refine X_off (v := (.box [1005] 7)) (by rfl) (by rfl) (E_p (by kernel_rfl)) rfl rfl ?_
                      refine X_off (v := (.val (.int .i64 v12.1.Phase))) (by rfl) (by rfl) (E_load (by kernel_rfl)) rfl rfl ?_
                      refine X_off (v := (.val (.bool (v12.1.Phase == 3)))) (by rfl) (by rfl) (E_p (by kernel_rfl)) rfl rfl ?_
                      refine X_op (w := (.val (.bool false))) (v := (.val (.bool false))) (E_pickF (by kernel_rfl) (by kernel_rfl)) rfl rfl rfl ?_
                      refine X_op (w := (.val (.bool false))) (v := (.val (.bool false))) (E_p (by kernel_rfl)) rfl rfl rfl ?_
                      refine X_off (v := (.agg [(.val (.int .i64 v12.1.Id)), (.val (.int .i64 v12.1.Account)), (.val (.int .i64 v12.1.Symbol)), (.val (.int .i64 v12.1.Side)), (.val (.int .i64 v12.1.Qty)), (.val (.int .i64 v12.1.Price)), (.val (.int .i64 v12.1.Filled)), (.val (.int .i64 v12.1.Phase)), (.val (.int .i64 v12.1.NewQty)), (.val (.int .i64 v12.1.NewPrice)), (.val (.int .i64 v12.1.Version)), (.val (.bool v12.1.Asked))])) (by rfl) (by rfl) (E_load (by kernel_rfl)) rfl rfl ?_
                      refine X_offC (by rfl) rfl rfl ?_
                      refine X_offN (by rfl) (by rfl) (by kernel_rfl) rfl rfl ?_
                      refine X_op (w := (.val (.bool false))) (v := (.val (.bool false))) (E_pickF (by kernel_rfl) (by kernel_rfl)) rfl rfl rfl ?_
                      refine X_op (w := (.val (.bool false))) (v := (.val (.bool false))) (E_p (by kernel_rfl)) rfl rfl rfl ?_
                      refine X_nil (m := [(2, (.val (.bool false)))]) (by exact ⟨rfl, trivial⟩) ?_
                      exact q_some fun h => (QN_then : QN _ _) _ _ (by exact Sub_keep ⟨.refl _, trivial⟩ trivial (by kernel_rfl) (by kernel_rfl)) h
                  · refine X_lit (t := 85) (v := false) rfl h23 ?_
                    refine X_off (v := (.val (.int .i64 v11.2))) (by rfl) (by rfl) (E_p (by kernel_rfl)) rfl rfl ?_
                    refine X_off (v := (.val (.bool (v11.2 == 0)))) (by rfl) (by rfl) (E_p (by kernel_rfl)) rfl rfl ?_
                    refine X_op (w := (.val (.bool false))) (v := (.val (.bool false))) (E_pickF (by kernel_rfl) (by kernel_rfl)) rfl rfl rfl ?_
                    refine X_op (w := (.val (.bool false))) (v := (.val (.bool false))) (E_p (by kernel_rfl)) rfl rfl rfl ?_
                    refine X_off (v := (.agg [(.val (.int .i64 v11.1.Id)), (.val (.int .i64 v11.1.Account)), (.val (.int .i64 v11.1.Symbol)), (.val (.int .i64 v11.1.Side)), (.val (.int .i64 v11.1.Qty)), (.val (.int .i64 v11.1.Price)), (.val (.int .i64 v11.1.Filled)), (.val (.int .i64 v11.1.Phase)), (.val (.int .i64 v11.1.NewQty)), (.val (.int .i64 v11.1.NewPrice)), (.val (.int .i64 v11.1.Version)), (.val (.bool v11.1.Asked))])) (by rfl) (by rfl) (E_load (by kernel_rfl)) rfl rfl ?_
                    refine X_offC (by rfl) rfl rfl ?_
                    refine X_off (v := (.box [1001] 5)) (by rfl) (by rfl) (E_p (by kernel_rfl)) rfl rfl ?_
                    refine X_off (v := (.val (.int .i64 p_r.Qty))) (by rfl) (by rfl) (E_load (by kernel_rfl)) rfl rfl ?_
                    refine X_offN (by rfl) (by rfl) (by kernel_rfl) rfl rfl ?_
                    refine X_op (w := (.val (.bool false))) (v := (.val (.bool false))) (E_pickF (by kernel_rfl) (by kernel_rfl)) rfl rfl rfl ?_
                    refine X_op (w := (.val (.bool false))) (v := (.val (.bool false))) (E_p (by kernel_rfl)) rfl rfl rfl ?_
                    refine X_off (v := (.val (.int .i64 v12.2))) (by rfl) (by rfl) (E_p (by kernel_rfl)) rfl rfl ?_
                    refine X_off (v := (.val (.bool (v12.2 == 0)))) (by rfl) (by rfl) (E_p (by kernel_rfl)) rfl rfl ?_
                    refine X_op (w := (.val (.bool false))) (v := (.val (.bool false))) (E_pickF (by kernel_rfl) (by kernel_rfl)) rfl rfl rfl ?_
                    refine X_op (w := (.val (.bool false))) (v := (.val (.bool false))) (E_p (by kernel_rfl)) rfl rfl rfl ?_
                    refine X_off (v := (.box [1005] 7)) (by rfl) (by rfl) (E_p (by kernel_rfl)) rfl rfl ?_
                    refine X_off (v := (.val (.int .i64 v12.1.Phase))) (by rfl) (by rfl) (E_load (by kernel_rfl)) rfl rfl ?_
                    refine X_off (v := (.val (.bool (v12.1.Phase == 3)))) (by rfl) (by rfl) (E_p (by kernel_rfl)) rfl rfl ?_
                    refine X_op (w := (.val (.bool false))) (v := (.val (.bool false))) (E_pickF (by kernel_rfl) (by kernel_rfl)) rfl rfl rfl ?_
                    refine X_op (w := (.val (.bool false))) (v := (.val (.bool false))) (E_p (by kernel_rfl)) rfl rfl rfl ?_
                    refine X_off (v := (.agg [(.val (.int .i64 v12.1.Id)), (.val (.int .i64 v12.1.Account)), (.val (.int .i64 v12.1.Symbol)), (.val (.int .i64 v12.1.Side)), (.val (.int .i64 v12.1.Qty)), (.val (.int .i64 v12.1.Price)), (.val (.int .i64 v12.1.Filled)), (.val (.int .i64 v12.1.Phase)), (.val (.int .i64 v12.1.NewQty)), (.val (.int .i64 v12.1.NewPrice)), (.val (.int .i64 v12.1.Version)), (.val (.bool v12.1.Asked))])) (by rfl) (by rfl) (E_load (by kernel_rfl)) rfl rfl ?_
                    refine X_offC (by rfl) rfl rfl ?_
                    refine X_offN (by rfl) (by rfl) (by kernel_rfl) rfl rfl ?_
                    refine X_op (w := (.val (.bool false))) (v := (.val (.bool false))) (E_pickF (by kernel_rfl) (by kernel_rfl)) rfl rfl rfl ?_
                    refine X_op (w := (.val (.bool false))) (v := (.val (.bool false))) (E_p (by kernel_rfl)) rfl rfl rfl ?_
                    refine X_nil (m := [(2, (.val (.bool false)))]) (by exact ⟨rfl, trivial⟩) ?_
                    exact q_some fun h => (QN_then : QN _ _) _ _ (by exact Sub_keep ⟨.refl _, trivial⟩ trivial (by kernel_rfl) (by kernel_rfl)) h
                · refine X_lit (t := 80) (v := false) rfl h21 ?_
                  refine X_off (v := (.agg [(.val (.int .i64 v10.1.Id)), (.val (.int .i64 v10.1.Account)), (.val (.int .i64 v10.1.Symbol)), (.val (.int .i64 v10.1.Side)), (.val (.int .i64 v10.1.Qty)), (.val (.int .i64 v10.1.Price)), (.val (.int .i64 v10.1.Filled)), (.val (.int .i64 v10.1.Phase)), (.val (.int .i64 v10.1.NewQty)), (.val (.int .i64 v10.1.NewPrice)), (.val (.int .i64 v10.1.Version)), (.val (.bool v10.1.Asked))])) (by rfl) (by rfl) (E_load (by kernel_rfl)) rfl rfl ?_
                  refine X_offC (by rfl) rfl rfl ?_
                  refine X_offN (by rfl) (by rfl) (by kernel_rfl) rfl rfl ?_
                  refine X_op (w := (.val (.bool false))) (v := (.val (.bool false))) (E_pickF (by kernel_rfl) (by kernel_rfl)) rfl rfl rfl ?_
                  refine X_op (w := (.val (.bool false))) (v := (.val (.bool false))) (E_p (by kernel_rfl)) rfl rfl rfl ?_
                  refine X_off (v := (.val (.int .i64 v11.2))) (by rfl) (by rfl) (E_p (by kernel_rfl)) rfl rfl ?_
                  refine X_off (v := (.val (.bool (v11.2 == 0)))) (by rfl) (by rfl) (E_p (by kernel_rfl)) rfl rfl ?_
                  refine X_op (w := (.val (.bool false))) (v := (.val (.bool false))) (E_pickF (by kernel_rfl) (by kernel_rfl)) rfl rfl rfl ?_
                  refine X_op (w := (.val (.bool false))) (v := (.val (.bool false))) (E_p (by kernel_rfl)) rfl rfl rfl ?_
                  refine X_off (v := (.agg [(.val (.int .i64 v11.1.Id)), (.val (.int .i64 v11.1.Account)), (.val (.int .i64 v11.1.Symbol)), (.val (.int .i64 v11.1.Side)), (.val (.int .i64 v11.1.Qty)), (.val (.int .i64 v11.1.Price)), (.val (.int .i64 v11.1.Filled)), (.val (.int .i64 v11.1.Phase)), (.val (.int .i64 v11.1.NewQty)), (.val (.int .i64 v11.1.NewPrice)), (.val (.int .i64 v11.1.Version)), (.val (.bool v11.1.Asked))])) (by rfl) (by rfl) (E_load (by kernel_rfl)) rfl rfl ?_
                  refine X_offC (by rfl) rfl rfl ?_
                  refine X_off (v := (.box [1001] 5)) (by rfl) (by rfl) (E_p (by kernel_rfl)) rfl rfl ?_
                  refine X_off (v := (.val (.int .i64 p_r.Qty))) (by rfl) (by rfl) (E_load (by kernel_rfl)) rfl rfl ?_
                  refine X_offN (by rfl) (by rfl) (by kernel_rfl) rfl rfl ?_
                  refine X_op (w := (.val (.bool false))) (v := (.val (.bool false))) (E_pickF (by kernel_rfl) (by kernel_rfl)) rfl rfl rfl ?_
                  refine X_op (w := (.val (.bool false))) (v := (.val (.bool false))) (E_p (by kernel_rfl)) rfl rfl rfl ?_
                  refine X_off (v := (.val (.int .i64 v12.2))) (by rfl) (by rfl) (E_p (by kernel_rfl)) rfl rfl ?_
                  refine X_off (v := (.val (.bool (v12.2 == 0)))) (by rfl) (by rfl) (E_p (by kernel_rfl)) rfl rfl ?_
                  refine X_op (w := (.val (.bool false))) (v := (.val (.bool false))) (E_pickF (by kernel_rfl) (by kernel_rfl)) rfl rfl rfl ?_
                  refine X_op (w := (.val (.bool false))) (v := (.val (.bool false))) (E_p (by kernel_rfl)) rfl rfl rfl ?_
                  refine X_off (v := (.box [1005] 7)) (by rfl) (by rfl) (E_p (by kernel_rfl)) rfl rfl ?_
                  refine X_off (v := (.val (.int .i64 v12.1.Phase))) (by rfl) (by rfl) (E_load (by kernel_rfl)) rfl rfl ?_
                  refine X_off (v := (.val (.bool (v12.1.Phase == 3)))) (by rfl) (by rfl) (E_p (by kernel_rfl)) rfl rfl ?_
                  refine X_op (w := (.val (.bool false))) (v := (.val (.bool false))) (E_pickF (by kernel_rfl) (by kernel_rfl)) rfl rfl rfl ?_
                  refine X_op (w := (.val (.bool false))) (v := (.val (.bool false))) (E_p (by kernel_rfl)) rfl rfl rfl ?_
                  refine X_off (v := (.agg [(.val (.int .i64 v12.1.Id)), (.val (.int .i64 v12.1.Account)), (.val (.int .i64 v12.1.Symbol)), (.val (.int .i64 v12.1.Side)), (.val (.int .i64 v12.1.Qty)), (.val (.int .i64 v12.1.Price)), (.val (.int .i64 v12.1.Filled)), (.val (.int .i64 v12.1.Phase)), (.val (.int .i64 v12.1.NewQty)), (.val (.int .i64 v12.1.NewPrice)), (.val (.int .i64 v12.1.Version)), (.val (.bool v12.1.Asked))])) (by rfl) (by rfl) (E_load (by kernel_rfl)) rfl rfl ?_
                  refine X_offC (by rfl) rfl rfl ?_
                  refine X_offN (by rfl) (by rfl) (by kernel_rfl) rfl rfl ?_
                  refine X_op (w := (.val (.bool false))) (v := (.val (.bool false))) (E_pickF (by kernel_rfl) (by kernel_rfl)) rfl rfl rfl ?_
                  refine X_op (w := (.val (.bool false))) (v := (.val (.bool false))) (E_p (by kernel_rfl)) rfl rfl rfl ?_
                  refine X_nil (m := [(2, (.val (.bool false)))]) (by exact ⟨rfl, trivial⟩) ?_
                  exact q_some fun h => (QN_then : QN _ _) _ _ (by exact Sub_keep ⟨.refl _, trivial⟩ trivial (by kernel_rfl) (by kernel_rfl)) h
              · refine X_lit (t := 75) (v := false) rfl h20 ?_
                refine X_off (v := (.box [1003] 7)) (by rfl) (by rfl) (E_p (by kernel_rfl)) rfl rfl ?_
                refine X_off (v := (.val (.int .i64 v10.1.Phase))) (by rfl) (by rfl) (E_load (by kernel_rfl)) rfl rfl ?_
                refine X_off (v := (.val (.bool (v10.1.Phase == 3)))) (by rfl) (by rfl) (E_p (by kernel_rfl)) rfl rfl ?_
                refine X_op (w := (.val (.bool false))) (v := (.val (.bool false))) (E_pickF (by kernel_rfl) (by kernel_rfl)) rfl rfl rfl ?_
                refine X_op (w := (.val (.bool false))) (v := (.val (.bool false))) (E_p (by kernel_rfl)) rfl rfl rfl ?_
                refine X_off (v := (.agg [(.val (.int .i64 v10.1.Id)), (.val (.int .i64 v10.1.Account)), (.val (.int .i64 v10.1.Symbol)), (.val (.int .i64 v10.1.Side)), (.val (.int .i64 v10.1.Qty)), (.val (.int .i64 v10.1.Price)), (.val (.int .i64 v10.1.Filled)), (.val (.int .i64 v10.1.Phase)), (.val (.int .i64 v10.1.NewQty)), (.val (.int .i64 v10.1.NewPrice)), (.val (.int .i64 v10.1.Version)), (.val (.bool v10.1.Asked))])) (by rfl) (by rfl) (E_load (by kernel_rfl)) rfl rfl ?_
                refine X_offC (by rfl) rfl rfl ?_
                refine X_offN (by rfl) (by rfl) (by kernel_rfl) rfl rfl ?_
                refine X_op (w := (.val (.bool false))) (v := (.val (.bool false))) (E_pickF (by kernel_rfl) (by kernel_rfl)) rfl rfl rfl ?_
                refine X_op (w := (.val (.bool false))) (v := (.val (.bool false))) (E_p (by kernel_rfl)) rfl rfl rfl ?_
                refine X_off (v := (.val (.int .i64 v11.2))) (by rfl) (by rfl) (E_p (by kernel_rfl)) rfl rfl ?_
                refine X_off (v := (.val (.bool (v11.2 == 0)))) (by rfl) (by rfl) (E_p (by kernel_rfl)) rfl rfl ?_
                refine X_op (w := (.val (.bool false))) (v := (.val (.bool false))) (E_pickF (by kernel_rfl) (by kernel_rfl)) rfl rfl rfl ?_
                refine X_op (w := (.val (.bool false))) (v := (.val (.bool false))) (E_p (by kernel_rfl)) rfl rfl rfl ?_
                refine X_off (v := (.agg [(.val (.int .i64 v11.1.Id)), (.val (.int .i64 v11.1.Account)), (.val (.int .i64 v11.1.Symbol)), (.val (.int .i64 v11.1.Side)), (.val (.int .i64 v11.1.Qty)), (.val (.int .i64 v11.1.Price)), (.val (.int .i64 v11.1.Filled)), (.val (.int .i64 v11.1.Phase)), (.val (.int .i64 v11.1.NewQty)), (.val (.int .i64 v11.1.NewPrice)), (.val (.int .i64 v11.1.Version)), (.val (.bool v11.1.Asked))])) (by rfl) (by rfl) (E_load (by kernel_rfl)) rfl rfl ?_
                refine X_offC (by rfl) rfl rfl ?_
                refine X_off (v := (.box [1001] 5)) (by rfl) (by rfl) (E_p (by kernel_rfl)) rfl rfl ?_
                refine X_off (v := (.val (.int .i64 p_r.Qty))) (by rfl) (by rfl) (E_load (by kernel_rfl)) rfl rfl ?_
                refine X_offN (by rfl) (by rfl) (by kernel_rfl) rfl rfl ?_
                refine X_op (w := (.val (.bool false))) (v := (.val (.bool false))) (E_pickF (by kernel_rfl) (by kernel_rfl)) rfl rfl rfl ?_
                refine X_op (w := (.val (.bool false))) (v := (.val (.bool false))) (E_p (by kernel_rfl)) rfl rfl rfl ?_
                refine X_off (v := (.val (.int .i64 v12.2))) (by rfl) (by rfl) (E_p (by kernel_rfl)) rfl rfl ?_
                refine X_off (v := (.val (.bool (v12.2 == 0)))) (by rfl) (by rfl) (E_p (by kernel_rfl)) rfl rfl ?_
                refine X_op (w := (.val (.bool false))) (v := (.val (.bool false))) (E_pickF (by kernel_rfl) (by kernel_rfl)) rfl rfl rfl ?_
                refine X_op (w := (.val (.bool false))) (v := (.val (.bool false))) (E_p (by kernel_rfl)) rfl rfl rfl ?_
                refine X_off (v := (.box [1005] 7)) (by rfl) (by rfl) (E_p (by kernel_rfl)) rfl rfl ?_
                refine X_off (v := (.val (.int .i64 v12.1.Phase))) (by rfl) (by rfl) (E_load (by kernel_rfl)) rfl rfl ?_
                refine X_off (v := (.val (.bool (v12.1.Phase == 3)))) (by rfl) (by rfl) (E_p (by kernel_rfl)) rfl rfl ?_
                refine X_op (w := (.val (.bool false))) (v := (.val (.bool false))) (E_pickF (by kernel_rfl) (by kernel_rfl)) rfl rfl rfl ?_
                refine X_op (w := (.val (.bool false))) (v := (.val (.bool false))) (E_p (by kernel_rfl)) rfl rfl rfl ?_
                refine X_off (v := (.agg [(.val (.int .i64 v12.1.Id)), (.val (.int .i64 v12.1.Account)), (.val (.int .i64 v12.1.Symbol)), (.val (.int .i64 v12.1.Side)), (.val (.int .i64 v12.1.Qty)), (.val (.int .i64 v12.1.Price)), (.val (.int .i64 v12.1.Filled)), (.val (.int .i64 v12.1.Phase)), (.val (.int .i64 v12.1.NewQty)), (.val (.int .i64 v12.1.NewPrice)), (.val (.int .i64 v12.1.Version)), (.val (.bool v12.1.Asked))])) (by rfl) (by rfl) (E_load (by kernel_rfl)) rfl rfl ?_
                refine X_offC (by rfl) rfl rfl ?_
                refine X_offN (by rfl) (by rfl) (by kernel_rfl) rfl rfl ?_
                refine X_op (w := (.val (.bool false))) (v := (.val (.bool false))) (E_pickF (by kernel_rfl) (by kernel_rfl)) rfl rfl rfl ?_
                refine X_op (w := (.val (.bool false))) (v := (.val (.bool false))) (E_p (by kernel_rfl)) rfl rfl rfl ?_
                refine X_nil (m := [(2, (.val (.bool false)))]) (by exact ⟨rfl, trivial⟩) ?_
                exact q_some fun h => (QN_then : QN _ _) _ _ (by exact Sub_keep ⟨.refl _, trivial⟩ trivial (by kernel_rfl) (by kernel_rfl)) h
            · refine X_lit (t := 71) (v := false) rfl h19 ?_
              refine X_off (v := (.val (.int .i64 v10.2))) (by rfl) (by rfl) (E_p (by kernel_rfl)) rfl rfl ?_
              refine X_off (v := (.val (.bool (v10.2 == 0)))) (by rfl) (by rfl) (E_p (by kernel_rfl)) rfl rfl ?_
              refine X_op (w := (.val (.bool false))) (v := (.val (.bool false))) (E_pickF (by kernel_rfl) (by kernel_rfl)) rfl rfl rfl ?_
              refine X_op (w := (.val (.bool false))) (v := (.val (.bool false))) (E_p (by kernel_rfl)) rfl rfl rfl ?_
              refine X_off (v := (.box [1003] 7)) (by rfl) (by rfl) (E_p (by kernel_rfl)) rfl rfl ?_
              refine X_off (v := (.val (.int .i64 v10.1.Phase))) (by rfl) (by rfl) (E_load (by kernel_rfl)) rfl rfl ?_
              refine X_off (v := (.val (.bool (v10.1.Phase == 3)))) (by rfl) (by rfl) (E_p (by kernel_rfl)) rfl rfl ?_
              refine X_op (w := (.val (.bool false))) (v := (.val (.bool false))) (E_pickF (by kernel_rfl) (by kernel_rfl)) rfl rfl rfl ?_
              refine X_op (w := (.val (.bool false))) (v := (.val (.bool false))) (E_p (by kernel_rfl)) rfl rfl rfl ?_
              refine X_off (v := (.agg [(.val (.int .i64 v10.1.Id)), (.val (.int .i64 v10.1.Account)), (.val (.int .i64 v10.1.Symbol)), (.val (.int .i64 v10.1.Side)), (.val (.int .i64 v10.1.Qty)), (.val (.int .i64 v10.1.Price)), (.val (.int .i64 v10.1.Filled)), (.val (.int .i64 v10.1.Phase)), (.val (.int .i64 v10.1.NewQty)), (.val (.int .i64 v10.1.NewPrice)), (.val (.int .i64 v10.1.Version)), (.val (.bool v10.1.Asked))])) (by rfl) (by rfl) (E_load (by kernel_rfl)) rfl rfl ?_
              refine X_offC (by rfl) rfl rfl ?_
              refine X_offN (by rfl) (by rfl) (by kernel_rfl) rfl rfl ?_
              refine X_op (w := (.val (.bool false))) (v := (.val (.bool false))) (E_pickF (by kernel_rfl) (by kernel_rfl)) rfl rfl rfl ?_
              refine X_op (w := (.val (.bool false))) (v := (.val (.bool false))) (E_p (by kernel_rfl)) rfl rfl rfl ?_
              refine X_off (v := (.val (.int .i64 v11.2))) (by rfl) (by rfl) (E_p (by kernel_rfl)) rfl rfl ?_
              refine X_off (v := (.val (.bool (v11.2 == 0)))) (by rfl) (by rfl) (E_p (by kernel_rfl)) rfl rfl ?_
              refine X_op (w := (.val (.bool false))) (v := (.val (.bool false))) (E_pickF (by kernel_rfl) (by kernel_rfl)) rfl rfl rfl ?_
              refine X_op (w := (.val (.bool false))) (v := (.val (.bool false))) (E_p (by kernel_rfl)) rfl rfl rfl ?_
              refine X_off (v := (.agg [(.val (.int .i64 v11.1.Id)), (.val (.int .i64 v11.1.Account)), (.val (.int .i64 v11.1.Symbol)), (.val (.int .i64 v11.1.Side)), (.val (.int .i64 v11.1.Qty)), (.val (.int .i64 v11.1.Price)), (.val (.int .i64 v11.1.Filled)), (.val (.int .i64 v11.1.Phase)), (.val (.int .i64 v11.1.NewQty)), (.val (.int .i64 v11.1.NewPrice)), (.val (.int .i64 v11.1.Version)), (.val (.bool v11.1.Asked))])) (by rfl) (by rfl) (E_load (by kernel_rfl)) rfl rfl ?_
              refine X_offC (by rfl) rfl rfl ?_
              refine X_off (v := (.box [1001] 5)) (by rfl) (by rfl) (E_p (by kernel_rfl)) rfl rfl ?_
              refine X_off (v := (.val (.int .i64 p_r.Qty))) (by rfl) (by rfl) (E_load (by kernel_rfl)) rfl rfl ?_
              refine X_offN (by rfl) (by rfl) (by kernel_rfl) rfl rfl ?_
              refine X_op (w := (.val (.bool false))) (v := (.val (.bool false))) (E_pickF (by kernel_rfl) (by kernel_rfl)) rfl rfl rfl ?_
              refine X_op (w := (.val (.bool false))) (v := (.val (.bool false))) (E_p (by kernel_rfl)) rfl rfl rfl ?_
              refine X_off (v := (.val (.int .i64 v12.2))) (by rfl) (by rfl) (E_p (by kernel_rfl)) rfl rfl ?_
              refine X_off (v := (.val (.bool (v12.2 == 0)))) (by rfl) (by rfl) (E_p (by kernel_rfl)) rfl rfl ?_
              refine X_op (w := (.val (.bool false))) (v := (.val (.bool false))) (E_pickF (by kernel_rfl) (by kernel_rfl)) rfl rfl rfl ?_
              refine X_op (w := (.val (.bool false))) (v := (.val (.bool false))) (E_p (by kernel_rfl)) rfl rfl rfl ?_
              refine X_off (v := (.box [1005] 7)) (by rfl) (by rfl) (E_p (by kernel_rfl)) rfl rfl ?_
              refine X_off (v := (.val (.int .i64 v12.1.Phase))) (by rfl) (by rfl) (E_load (by kernel_rfl)) rfl rfl ?_
              refine X_off (v := (.val (.bool (v12.1.Phase == 3)))) (by rfl) (by rfl) (E_p (by kernel_rfl)) rfl rfl ?_
              refine X_op (w := (.val (.bool false))) (v := (.val (.bool false))) (E_pickF (by kernel_rfl) (by kernel_rfl)) rfl rfl rfl ?_
              refine X_op (w := (.val (.bool false))) (v := (.val (.bool false))) (E_p (by kernel_rfl)) rfl rfl rfl ?_
              refine X_off (v := (.agg [(.val (.int .i64 v12.1.Id)), (.val (.int .i64 v12.1.Account)), (.val (.int .i64 v12.1.Symbol)), (.val (.int .i64 v12.1.Side)), (.val (.int .i64 v12.1.Qty)), (.val (.int .i64 v12.1.Price)), (.val (.int .i64 v12.1.Filled)), (.val (.int .i64 v12.1.Phase)), (.val (.int .i64 v12.1.NewQty)), (.val (.int .i64 v12.1.NewPrice)), (.val (.int .i64 v12.1.Version)), (.val (.bool v12.1.Asked))])) (by rfl) (by rfl) (E_load (by kernel_rfl)) rfl rfl ?_
              refine X_offC (by rfl) rfl rfl ?_
              refine X_offN (by rfl) (by rfl) (by kernel_rfl) rfl rfl ?_
              refine X_op (w := (.val (.bool false))) (v := (.val (.bool false))) (E_pickF (by kernel_rfl) (by kernel_rfl)) rfl rfl rfl ?_
              refine X_op (w := (.val (.bool false))) (v := (.val (.bool false))) (E_p (by kernel_rfl)) rfl rfl rfl ?_
              refine X_nil (m := [(2, (.val (.bool false)))]) (by exact ⟨rfl, trivial⟩) ?_
              exact q_some fun h => (QN_then : QN _ _) _ _ (by exact Sub_keep ⟨.refl _, trivial⟩ trivial (by kernel_rfl) (by kernel_rfl)) h
          · refine X_lit (t := 64) (v := false) rfl h17 ?_
            refine X_off (v := (.agg [(.val (.int .i64 v2.1.Id)), (.val (.int .i64 v2.1.Account)), (.val (.int .i64 v2.1.Symbol)), (.val (.int .i64 v2.1.Side)), (.val (.int .i64 v2.1.Qty)), (.val (.int .i64 v2.1.Price)), (.val (.int .i64 v2.1.Filled)), (.val (.int .i64 v2.1.Phase)), (.val (.int .i64 v2.1.NewQty)), (.val (.int .i64 v2.1.NewPrice)), (.val (.int .i64 v2.1.Version)), (.val (.bool v2.1.Asked))])) (by rfl) (by rfl) (E_load (by kernel_rfl)) rfl rfl ?_
            refine X_offC (by rfl) rfl rfl ?_
            refine X_off (v := (.box [1001] 5)) (by rfl) (by rfl) (E_p (by kernel_rfl)) rfl rfl ?_
            refine X_off (v := (.val (.int .i64 p_r.Qty))) (by rfl) (by rfl) (E_load (by kernel_rfl)) rfl rfl ?_
            refine X_offN (by rfl) (by rfl) (by kernel_rfl) rfl rfl ?_
            refine X_op (w := (.val (.bool false))) (v := (.val (.bool false))) (E_pickF (by kernel_rfl) (by kernel_rfl)) rfl rfl rfl ?_
            refine X_op (w := (.val (.bool false))) (v := (.val (.bool false))) (E_p (by kernel_rfl)) rfl rfl rfl ?_
            refine X_off (v := (.val (.int .i64 v10.2))) (by rfl) (by rfl) (E_p (by kernel_rfl)) rfl rfl ?_
            refine X_off (v := (.val (.bool (v10.2 == 0)))) (by rfl) (by rfl) (E_p (by kernel_rfl)) rfl rfl ?_
            refine X_op (w := (.val (.bool false))) (v := (.val (.bool false))) (E_pickF (by kernel_rfl) (by kernel_rfl)) rfl rfl rfl ?_
            refine X_op (w := (.val (.bool false))) (v := (.val (.bool false))) (E_p (by kernel_rfl)) rfl rfl rfl ?_
            refine X_off (v := (.box [1003] 7)) (by rfl) (by rfl) (E_p (by kernel_rfl)) rfl rfl ?_
            refine X_off (v := (.val (.int .i64 v10.1.Phase))) (by rfl) (by rfl) (E_load (by kernel_rfl)) rfl rfl ?_
            refine X_off (v := (.val (.bool (v10.1.Phase == 3)))) (by rfl) (by rfl) (E_p (by kernel_rfl)) rfl rfl ?_
            refine X_op (w := (.val (.bool false))) (v := (.val (.bool false))) (E_pickF (by kernel_rfl) (by kernel_rfl)) rfl rfl rfl ?_
            refine X_op (w := (.val (.bool false))) (v := (.val (.bool false))) (E_p (by kernel_rfl)) rfl rfl rfl ?_
            refine X_off (v := (.agg [(.val (.int .i64 v10.1.Id)), (.val (.int .i64 v10.1.Account)), (.val (.int .i64 v10.1.Symbol)), (.val (.int .i64 v10.1.Side)), (.val (.int .i64 v10.1.Qty)), (.val (.int .i64 v10.1.Price)), (.val (.int .i64 v10.1.Filled)), (.val (.int .i64 v10.1.Phase)), (.val (.int .i64 v10.1.NewQty)), (.val (.int .i64 v10.1.NewPrice)), (.val (.int .i64 v10.1.Version)), (.val (.bool v10.1.Asked))])) (by rfl) (by rfl) (E_load (by kernel_rfl)) rfl rfl ?_
            refine X_offC (by rfl) rfl rfl ?_
            refine X_offN (by rfl) (by rfl) (by kernel_rfl) rfl rfl ?_
            refine X_op (w := (.val (.bool false))) (v := (.val (.bool false))) (E_pickF (by kernel_rfl) (by kernel_rfl)) rfl rfl rfl ?_
            refine X_op (w := (.val (.bool false))) (v := (.val (.bool false))) (E_p (by kernel_rfl)) rfl rfl rfl ?_
            refine X_off (v := (.val (.int .i64 v11.2))) (by rfl) (by rfl) (E_p (by kernel_rfl)) rfl rfl ?_
            refine X_off (v := (.val (.bool (v11.2 == 0)))) (by rfl) (by rfl) (E_p (by kernel_rfl)) rfl rfl ?_
            refine X_op (w := (.val (.bool false))) (v := (.val (.bool false))) (E_pickF (by kernel_rfl) (by kernel_rfl)) rfl rfl rfl ?_
            refine X_op (w := (.val (.bool false))) (v := (.val (.bool false))) (E_p (by kernel_rfl)) rfl rfl rfl ?_
            refine X_off (v := (.agg [(.val (.int .i64 v11.1.Id)), (.val (.int .i64 v11.1.Account)), (.val (.int .i64 v11.1.Symbol)), (.val (.int .i64 v11.1.Side)), (.val (.int .i64 v11.1.Qty)), (.val (.int .i64 v11.1.Price)), (.val (.int .i64 v11.1.Filled)), (.val (.int .i64 v11.1.Phase)), (.val (.int .i64 v11.1.NewQty)), (.val (.int .i64 v11.1.NewPrice)), (.val (.int .i64 v11.1.Version)), (.val (.bool v11.1.Asked))])) (by rfl) (by rfl) (E_load (by kernel_rfl)) rfl rfl ?_
            refine X_offC (by rfl) rfl rfl ?_
            refine X_off (v := (.box [1001] 5)) (by rfl) (by rfl) (E_p (by kernel_rfl)) rfl rfl ?_
            refine X_off (v := (.val (.int .i64 p_r.Qty))) (by rfl) (by rfl) (E_load (by kernel_rfl)) rfl rfl ?_
            refine X_offN (by rfl) (by rfl) (by kernel_rfl) rfl rfl ?_
            refine X_op (w := (.val (.bool false))) (v := (.val (.bool false))) (E_pickF (by kernel_rfl) (by kernel_rfl)) rfl rfl rfl ?_
            refine X_op (w := (.val (.bool false))) (v := (.val (.bool false))) (E_p (by kernel_rfl)) rfl rfl rfl ?_
            refine X_off (v := (.val (.int .i64 v12.2))) (by rfl) (by rfl) (E_p (by kernel_rfl)) rfl rfl ?_
            refine X_off (v := (.val (.bool (v12.2 == 0)))) (by rfl) (by rfl) (E_p (by kernel_rfl)) rfl rfl ?_
            refine X_op (w := (.val (.bool false))) (v := (.val (.bool false))) (E_pickF (by kernel_rfl) (by kernel_rfl)) rfl rfl rfl ?_
            refine X_op (w := (.val (.bool false))) (v := (.val (.bool false))) (E_p (by kernel_rfl)) rfl rfl rfl ?_
            refine X_off (v := (.box [1005] 7)) (by rfl) (by rfl) (E_p (by kernel_rfl)) rfl rfl ?_
            refine X_off (v := (.val (.int .i64 v12.1.Phase))) (by rfl) (by rfl) (E_load (by kernel_rfl)) rfl rfl ?_
            refine X_off (v := (.val (.bool (v12.1.Phase == 3)))) (by rfl) (by rfl) (E_p (by kernel_rfl)) rfl rfl ?_
            refine X_op (w := (.val (.bool false))) (v := (.val (.bool false))) (E_pickF (by kernel_rfl) (by kernel_rfl)) rfl rfl rfl ?_
            refine X_op (w := (.val (.bool false))) (v := (.val (.bool false))) (E_p (by kernel_rfl)) rfl rfl rfl ?_
            refine X_off (v := (.agg [(.val (.int .i64 v12.1.Id)), (.val (.int .i64 v12.1.Account)), (.val (.int .i64 v12.1.Symbol)), (.val (.int .i64 v12.1.Side)), (.val (.int .i64 v12.1.Qty)), (.val (.int .i64 v12.1.Price)), (.val (.int .i64 v12.1.Filled)), (.val (.int .i64 v12.1.Phase)), (.val (.int .i64 v12.1.NewQty)), (.val (.int .i64 v12.1.NewPrice)), (.val (.int .i64 v12.1.Version)), (.val (.bool v12.1.Asked))])) (by rfl) (by rfl) (E_load (by kernel_rfl)) rfl rfl ?_
            refine X_offC (by rfl) rfl rfl ?_
            refine X_offN (by rfl) (by rfl) (by kernel_rfl) rfl rfl ?_
            refine X_op (w := (.val (.bool false))) (v := (.val (.bool false))) (E_pickF (by kernel_rfl) (by kernel_rfl)) rfl rfl rfl ?_
            refine X_op (w := (.val (.bool false))) (v := (.val (.bool false))) (E_p (by kernel_rfl)) rfl rfl rfl ?_
            refine X_nil (m := [(2, (.val (.bool false)))]) (by exact ⟨rfl, trivial⟩) ?_
            exact q_some fun h => (QN_then : QN _ _) _ _ (by exact Sub_keep ⟨.refl _, trivial⟩ trivial (by kernel_rfl) (by kernel_rfl)) h
        · refine X_lit (t := 59) (v := false) rfl h16 ?_
          refine X_off (v := (.box [1002] 7)) (by rfl) (by rfl) (E_p (by kernel_rfl)) rfl rfl ?_
          refine X_off (v := (.val (.int .i64 v2.1.Phase))) (by rfl) (by rfl) (E_load (by kernel_rfl)) rfl rfl ?_
          refine X_off (v := (.val (.bool (v2.1.Phase == 1)))) (by rfl) (by rfl) (E_p (by kernel_rfl)) rfl rfl ?_
          refine X_op (w := (.val (.bool false))) (v := (.val (.bool false))) (E_pickF (by kernel_rfl) (by kernel_rfl)) rfl rfl rfl ?_
          refine X_op (w := (.val (.bool false))) (v := (.val (.bool false))) (E_p (by kernel_rfl)) rfl rfl rfl ?_
          refine X_off (v := (.agg [(.val (.int .i64 v2.1.Id)), (.val (.int .i64 v2.1.Account)), (.val (.int .i64 v2.1.Symbol)), (.val (.int .i64 v2.1.Side)), (.val (.int .i64 v2.1.Qty)), (.val (.int .i64 v2.1.Price)), (.val (.int .i64 v2.1.Filled)), (.val (.int .i64 v2.1.Phase)), (.val (.int .i64 v2.1.NewQty)), (.val (.int .i64 v2.1.NewPrice)), (.val (.int .i64 v2.1.Version)), (.val (.bool v2.1.Asked))])) (by rfl) (by rfl) (E_load (by kernel_rfl)) rfl rfl ?_
          refine X_offC (by rfl) rfl rfl ?_
          refine X_off (v := (.box [1001] 5)) (by rfl) (by rfl) (E_p (by kernel_rfl)) rfl rfl ?_
          refine X_off (v := (.val (.int .i64 p_r.Qty))) (by rfl) (by rfl) (E_load (by kernel_rfl)) rfl rfl ?_
          refine X_offN (by rfl) (by rfl) (by kernel_rfl) rfl rfl ?_
          refine X_op (w := (.val (.bool false))) (v := (.val (.bool false))) (E_pickF (by kernel_rfl) (by kernel_rfl)) rfl rfl rfl ?_
          refine X_op (w := (.val (.bool false))) (v := (.val (.bool false))) (E_p (by kernel_rfl)) rfl rfl rfl ?_
          refine X_off (v := (.val (.int .i64 v10.2))) (by rfl) (by rfl) (E_p (by kernel_rfl)) rfl rfl ?_
          refine X_off (v := (.val (.bool (v10.2 == 0)))) (by rfl) (by rfl) (E_p (by kernel_rfl)) rfl rfl ?_
          refine X_op (w := (.val (.bool false))) (v := (.val (.bool false))) (E_pickF (by kernel_rfl) (by kernel_rfl)) rfl rfl rfl ?_
          refine X_op (w := (.val (.bool false))) (v := (.val (.bool false))) (E_p (by kernel_rfl)) rfl rfl rfl ?_
          refine X_off (v := (.box [1003] 7)) (by rfl) (by rfl) (E_p (by kernel_rfl)) rfl rfl ?_
          refine X_off (v := (.val (.int .i64 v10.1.Phase))) (by rfl) (by rfl) (E_load (by kernel_rfl)) rfl rfl ?_
          refine X_off (v := (.val (.bool (v10.1.Phase == 3)))) (by rfl) (by rfl) (E_p (by kernel_rfl)) rfl rfl ?_
          refine X_op (w := (.val (.bool false))) (v := (.val (.bool false))) (E_pickF (by kernel_rfl) (by kernel_rfl)) rfl rfl rfl ?_
          refine X_op (w := (.val (.bool false))) (v := (.val (.bool false))) (E_p (by kernel_rfl)) rfl rfl rfl ?_
          refine X_off (v := (.agg [(.val (.int .i64 v10.1.Id)), (.val (.int .i64 v10.1.Account)), (.val (.int .i64 v10.1.Symbol)), (.val (.int .i64 v10.1.Side)), (.val (.int .i64 v10.1.Qty)), (.val (.int .i64 v10.1.Price)), (.val (.int .i64 v10.1.Filled)), (.val (.int .i64 v10.1.Phase)), (.val (.int .i64 v10.1.NewQty)), (.val (.int .i64 v10.1.NewPrice)), (.val (.int .i64 v10.1.Version)), (.val (.bool v10.1.Asked))])) (by rfl) (by rfl) (E_load (by kernel_rfl)) rfl rfl ?_
          refine X_offC (by rfl) rfl rfl ?_
          refine X_offN (by rfl) (by rfl) (by kernel_rfl) rfl rfl ?_
          refine X_op (w := (.val (.bool false))) (v := (.val (.bool false))) (E_pickF (by kernel_rfl) (by kernel_rfl)) rfl rfl rfl ?_
          refine X_op (w := (.val (.bool false))) (v := (.val (.bool false))) (E_p (by kernel_rfl)) rfl rfl rfl ?_
          refine X_off (v := (.val (.int .i64 v11.2))) (by rfl) (by rfl) (E_p (by kernel_rfl)) rfl rfl ?_
          refine X_off (v := (.val (.bool (v11.2 == 0)))) (by rfl) (by rfl) (E_p (by kernel_rfl)) rfl rfl ?_
          refine X_op (w := (.val (.bool false))) (v := (.val (.bool false))) (E_pickF (by kernel_rfl) (by kernel_rfl)) rfl rfl rfl ?_
          refine X_op (w := (.val (.bool false))) (v := (.val (.bool false))) (E_p (by kernel_rfl)) rfl rfl rfl ?_
          refine X_off (v := (.agg [(.val (.int .i64 v11.1.Id)), (.val (.int .i64 v11.1.Account)), (.val (.int .i64 v11.1.Symbol)), (.val (.int .i64 v11.1.Side)), (.val (.int .i64 v11.1.Qty)), (.val (.int .i64 v11.1.Price)), (.val (.int .i64 v11.1.Filled)), (.val (.int .i64 v11.1.Phase)), (.val (.int .i64 v11.1.NewQty)), (.val (.int .i64 v11.1.NewPrice)), (.val (.int .i64 v11.1.Version)), (.val (.bool v11.1.Asked))])) (by rfl) (by rfl) (E_load (by kernel_rfl)) rfl rfl ?_
          refine X_offC (by rfl) rfl rfl ?_
          refine X_off (v := (.box [1001] 5)) (by rfl) (by rfl) (E_p (by kernel_rfl)) rfl rfl ?_
          refine X_off (v := (.val (.int .i64 p_r.Qty))) (by rfl) (by rfl) (E_load (by kernel_rfl)) rfl rfl ?_
          refine X_offN (by rfl) (by rfl) (by kernel_rfl) rfl rfl ?_
          refine X_op (w := (.val (.bool false))) (v := (.val (.bool false))) (E_pickF (by kernel_rfl) (by kernel_rfl)) rfl rfl rfl ?_
          refine X_op (w := (.val (.bool false))) (v := (.val (.bool false))) (E_p (by kernel_rfl)) rfl rfl rfl ?_
          refine X_off (v := (.val (.int .i64 v12.2))) (by rfl) (by rfl) (E_p (by kernel_rfl)) rfl rfl ?_
          refine X_off (v := (.val (.bool (v12.2 == 0)))) (by rfl) (by rfl) (E_p (by kernel_rfl)) rfl rfl ?_
          refine X_op (w := (.val (.bool false))) (v := (.val (.bool false))) (E_pickF (by kernel_rfl) (by kernel_rfl)) rfl rfl rfl ?_
          refine X_op (w := (.val (.bool false))) (v := (.val (.bool false))) (E_p (by kernel_rfl)) rfl rfl rfl ?_
          refine X_off (v := (.box [1005] 7)) (by rfl) (by rfl) (E_p (by kernel_rfl)) rfl rfl ?_
          refine X_off (v := (.val (.int .i64 v12.1.Phase))) (by rfl) (by rfl) (E_load (by kernel_rfl)) rfl rfl ?_
          refine X_off (v := (.val (.bool (v12.1.Phase == 3)))) (by rfl) (by rfl) (E_p (by kernel_rfl)) rfl rfl ?_
          refine X_op (w := (.val (.bool false))) (v := (.val (.bool false))) (E_pickF (by kernel_rfl) (by kernel_rfl)) rfl rfl rfl ?_
          refine X_op (w := (.val (.bool false))) (v := (.val (.bool false))) (E_p (by kernel_rfl)) rfl rfl rfl ?_
          refine X_off (v := (.agg [(.val (.int .i64 v12.1.Id)), (.val (.int .i64 v12.1.Account)), (.val (.int .i64 v12.1.Symbol)), (.val (.int .i64 v12.1.Side)), (.val (.int .i64 v12.1.Qty)), (.val (.int .i64 v12.1.Price)), (.val (.int .i64 v12.1.Filled)), (.val (.int .i64 v12.1.Phase)), (.val (.int .i64 v12.1.NewQty)), (.val (.int .i64 v12.1.NewPrice)), (.val (.int .i64 v12.1.Version)), (.val (.bool v12.1.Asked))])) (by rfl) (by rfl) (E_load (by kernel_rfl)) rfl rfl ?_
          refine X_offC (by rfl) rfl rfl ?_
          refine X_offN (by rfl) (by rfl) (by kernel_rfl) rfl rfl ?_
          refine X_op (w := (.val (.bool false))) (v := (.val (.bool false))) (E_pickF (by kernel_rfl) (by kernel_rfl)) rfl rfl rfl ?_
          refine X_op (w := (.val (.bool false))) (v := (.val (.bool false))) (E_p (by kernel_rfl)) rfl rfl rfl ?_
          refine X_nil (m := [(2, (.val (.bool false)))]) (by exact ⟨rfl, trivial⟩) ?_
          exact q_some fun h => (QN_then : QN _ _) _ _ (by exact Sub_keep ⟨.refl _, trivial⟩ trivial (by kernel_rfl) (by kernel_rfl)) h
theorem s13 (x0 : RecT) (ds : List DV) (hd : List.map z1 ds = List.map z1 [.agg (e_RecT x0)]) : sp13 ds = (g_snafflelaw07_OrderBegins x0).map fun r => .bool r :=
  specT_at (ea := fun (a : RecT) => [.agg (e_RecT a)]) (eb := fun (r : Bool) => .bool r) (g := fun (a : RecT) => g_snafflelaw07_OrderBegins a) inj13 x0 hd
end Go.AI
