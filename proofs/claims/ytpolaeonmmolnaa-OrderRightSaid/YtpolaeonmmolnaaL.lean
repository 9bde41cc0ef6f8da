import Derived.Test.YtpolaeonmmolnaaLe
namespace Go.AI
open Go.Proofs
set_option linter.unusedVariables false
set_option linter.unusedSimpArgs false
def k9_0 : ACode := (.region (⟨(some 5), (.a (.bx (.t 0))), none⟩ :: ⟨(some 6), (.a (.bx (.t 1))), none⟩ :: ⟨(some 7), (.a (.bx (.t 2))), none⟩ :: ⟨(some 10), (.p (.mv (.c (.bool false)))), none⟩ :: []))
def k9_1 : ACode := (.seq (.region (⟨(some 18), (.r (.call 38 [])), none⟩ :: ⟨(some 19), (.p (.un .not (.t 18))), none⟩ :: [])) (.cond (.t 19) (.seq (.region (⟨(some 10), (.p (.mv (.c (.bool false)))), none⟩ :: [])) .ret) .skip))
def k9_2 : ACode := (.region (⟨(some 21), (.r (.load 13 true (.t 6))), none⟩ :: ⟨(some 22), (.r (.call 39 [(.t 21)])), none⟩ :: ⟨(some 20), (.p (.mv (.t 22))), none⟩ :: ⟨(some 23), (.p (.ext (.t 20) 0)), none⟩ :: ⟨(some 24), (.p (.ext (.t 20) 1)), none⟩ :: ⟨(some 11), (.a (.alloc [(.int .i64 0), (.int .i64 0), (.int .i64 0), (.int .i64 0), (.int .i64 0), (.int .i64 0), (.int .i64 0), (.int .i64 0), (.int .i64 0), (.int .i64 0), (.int .i64 0), (.bool false)])), none⟩ :: ⟨none, (.w (.store 12 (.t 11) (.t 23))), none⟩ :: ⟨(some 12), (.p (.mv (.t 24))), none⟩ :: []))
def k9_3 : ACode := (.region (⟨(some 26), (.r (.load 13 true (.t 6))), none⟩ :: ⟨(some 27), (.r (.call 40 [(.t 26)])), none⟩ :: ⟨(some 25), (.p (.mv (.t 27))), none⟩ :: ⟨(some 28), (.p (.ext (.t 25) 0)), none⟩ :: ⟨(some 29), (.p (.ext (.t 25) 1)), none⟩ :: ⟨(some 13), (.a (.alloc [(.int .i64 0), (.int .i64 0), (.int .i64 0), (.int .i64 0), (.int .i64 0), (.int .i64 0), (.int .i64 0), (.int .i64 0), (.int .i64 0), (.int .i64 0), (.int .i64 0), (.bool false)])), none⟩ :: ⟨none, (.w (.store 12 (.t 13) (.t 28))), none⟩ :: ⟨(some 14), (.p (.mv (.t 29))), none⟩ :: []))
def k9_4 : ACode := (.draw (⟨(some 30), (.r (.load 12 true (.t 5))), none⟩ :: ⟨(some 31), (.r (.call 41 [(.t 30)])), none⟩ :: ⟨(some 32), (.r (.load 12 true (.t 5))), none⟩ :: ⟨(some 33), (.r (.call 42 [(.t 32)])), none⟩ :: ⟨(some 34), (.p (.eqb true (.t 31) (.t 33))), none⟩ :: ⟨(some 35), (.p (.mv (.t 34))), none⟩ :: ⟨(some 36), (.r (.load 12 true (.t 11))), (some (35, false))⟩ :: ⟨(some 37), (.r (.load 12 true (.t 13))), (some (35, false))⟩ :: ⟨(some 38), (.p (.eqs [1, 1, 1, 1, 1, 1, 1, 1, 1, 1, 1, 0] true (.t 36) (.t 37))), (some (35, false))⟩ :: ⟨(some 39), (.p (.pick (.t 35) (.c (.bool true)) (.t 38))), none⟩ :: ⟨(some 40), (.p (.mv (.t 39))), none⟩ :: ⟨(some 41), (.p (.mv (.t 12))), (some (40, false))⟩ :: ⟨(some 42), (.p (.bin .eql (.t 41) (.c (.int .i64 0)))), (some (40, false))⟩ :: ⟨(some 43), (.p (.mv (.t 14))), (some (40, false))⟩ :: ⟨(some 44), (.p (.eqb true (.t 42) (.t 43))), (some (40, false))⟩ :: ⟨(some 45), (.p (.pick (.t 40) (.c (.bool true)) (.t 44))), none⟩ :: ⟨(some 46), (.p (.mv (.t 45))), none⟩ :: ⟨(some 47), (.p (.mv (.t 14))), (some (46, false))⟩ :: ⟨(some 48), (.p (.un .not (.t 47))), (some (46, false))⟩ :: ⟨(some 49), (.p (.mv (.t 48))), (some (46, false))⟩ :: ⟨(some 50), (.p (.mv (.t 12))), (some (49, true))⟩ :: ⟨(some 51), (.p (.bin .neq (.t 50) (.c (.int .i64 1)))), (some (49, true))⟩ :: ⟨(some 52), (.p (.pick (.t 49) (.t 51) (.c (.bool false)))), (some (46, false))⟩ :: ⟨(some 53), (.p (.pick (.t 46) (.c (.bool true)) (.t 52))), none⟩ :: []))
def k9_5 : ACode := (.seq k9_4 (.cond (.t 53) (.seq (.region (⟨(some 10), (.p (.mv (.c (.bool false)))), none⟩ :: [])) .ret) .skip))
def k9_6 : ACode := (.region (⟨(some 55), (.r (.load 12 true (.t 5))), none⟩ :: ⟨(some 56), (.r (.load 5 true (.t 7))), none⟩ :: ⟨(some 57), (.r (.call 43 [(.t 55), (.t 56)])), none⟩ :: ⟨(some 54), (.p (.mv (.t 57))), none⟩ :: ⟨(some 58), (.p (.ext (.t 54) 0)), none⟩ :: ⟨(some 59), (.p (.ext (.t 54) 1)), none⟩ :: ⟨none, (.w (.store 12 (.t 11) (.t 58))), none⟩ :: ⟨(some 12), (.p (.mv (.t 59))), none⟩ :: []))
def k9_7 : ACode := (.region (⟨(some 61), (.r (.load 12 true (.t 5))), none⟩ :: ⟨(some 62), (.r (.load 5 true (.t 7))), none⟩ :: ⟨(some 63), (.r (.call 44 [(.t 61), (.t 62)])), none⟩ :: ⟨(some 60), (.p (.mv (.t 63))), none⟩ :: ⟨(some 64), (.p (.ext (.t 60) 0)), none⟩ :: ⟨(some 65), (.p (.ext (.t 60) 1)), none⟩ :: ⟨none, (.w (.store 12 (.t 13) (.t 64))), none⟩ :: ⟨(some 15), (.p (.mv (.t 65))), none⟩ :: []))
def k9_8 : ACode := (.region (⟨(some 66), (.r (.load 12 true (.t 11))), none⟩ :: ⟨(some 67), (.r (.load 12 true (.t 13))), none⟩ :: ⟨(some 68), (.p (.eqs [1, 1, 1, 1, 1, 1, 1, 1, 1, 1, 1, 0] true (.t 66) (.t 67))), none⟩ :: ⟨(some 69), (.p (.mv (.t 68))), none⟩ :: ⟨(some 70), (.p (.mv (.t 12))), (some (69, false))⟩ :: ⟨(some 71), (.p (.mv (.t 15))), (some (69, false))⟩ :: ⟨(some 72), (.p (.bin .neq (.t 70) (.t 71))), (some (69, false))⟩ :: ⟨(some 73), (.p (.pick (.t 69) (.c (.bool true)) (.t 72))), none⟩ :: []))
def k9_9 : ACode := (.seq k9_8 (.cond (.t 73) (.seq (.region (⟨(some 10), (.p (.mv (.c (.bool false)))), none⟩ :: [])) .ret) .skip))
def k9_10 : ACode := (.region (⟨(some 75), (.r (.load 12 true (.t 5))), none⟩ :: ⟨(some 76), (.p (.mv (.t 3))), none⟩ :: ⟨(some 77), (.p (.mv (.t 4))), none⟩ :: ⟨(some 78), (.r (.call 45 [(.t 75), (.t 76), (.t 77)])), none⟩ :: ⟨(some 74), (.p (.mv (.t 78))), none⟩ :: ⟨(some 79), (.p (.ext (.t 74) 0)), none⟩ :: ⟨(some 80), (.p (.ext (.t 74) 1)), none⟩ :: ⟨none, (.w (.store 12 (.t 11) (.t 79))), none⟩ :: ⟨(some 12), (.p (.mv (.t 80))), none⟩ :: []))
def k9_11 : ACode := (.region (⟨(some 82), (.r (.load 12 true (.t 5))), none⟩ :: ⟨(some 83), (.p (.mv (.t 3))), none⟩ :: ⟨(some 84), (.p (.mv (.t 4))), none⟩ :: ⟨(some 85), (.r (.call 46 [(.t 82), (.t 83), (.t 84)])), none⟩ :: ⟨(some 81), (.p (.mv (.t 85))), none⟩ :: ⟨(some 86), (.p (.ext (.t 81) 0)), none⟩ :: ⟨(some 87), (.p (.ext (.t 81) 1)), none⟩ :: ⟨none, (.w (.store 12 (.t 13) (.t 86))), none⟩ :: ⟨(some 15), (.p (.mv (.t 87))), none⟩ :: []))
def k9_12 : ACode := (.region (⟨(some 88), (.r (.load 12 true (.t 11))), none⟩ :: ⟨(some 89), (.r (.load 12 true (.t 13))), none⟩ :: ⟨(some 90), (.p (.eqs [1, 1, 1, 1, 1, 1, 1, 1, 1, 1, 1, 0] true (.t 88) (.t 89))), none⟩ :: ⟨(some 91), (.p (.mv (.t 90))), none⟩ :: ⟨(some 92), (.p (.mv (.t 12))), (some (91, false))⟩ :: ⟨(some 93), (.p (.mv (.t 15))), (some (91, false))⟩ :: ⟨(some 94), (.p (.bin .neq (.t 92) (.t 93))), (some (91, false))⟩ :: ⟨(some 95), (.p (.pick (.t 91) (.c (.bool true)) (.t 94))), none⟩ :: []))
def k9_13 : ACode := (.seq k9_12 (.cond (.t 95) (.seq (.region (⟨(some 10), (.p (.mv (.c (.bool false)))), none⟩ :: [])) .ret) .skip))
def k9_14 : ACode := (.region (⟨(some 97), (.r (.load 12 true (.t 5))), none⟩ :: ⟨(some 98), (.r (.call 47 [(.t 97)])), none⟩ :: ⟨(some 96), (.p (.mv (.t 98))), none⟩ :: ⟨(some 99), (.p (.ext (.t 96) 0)), none⟩ :: ⟨(some 100), (.p (.ext (.t 96) 1)), none⟩ :: ⟨none, (.w (.store 12 (.t 11) (.t 99))), none⟩ :: ⟨(some 12), (.p (.mv (.t 100))), none⟩ :: []))
def k9_15 : ACode := (.region (⟨(some 102), (.r (.load 12 true (.t 5))), none⟩ :: ⟨(some 103), (.r (.call 48 [(.t 102)])), none⟩ :: ⟨(some 101), (.p (.mv (.t 103))), none⟩ :: ⟨(some 104), (.p (.ext (.t 101) 0)), none⟩ :: ⟨(some 105), (.p (.ext (.t 101) 1)), none⟩ :: ⟨none, (.w (.store 12 (.t 13) (.t 104))), none⟩ :: ⟨(some 15), (.p (.mv (.t 105))), none⟩ :: []))
def k9_16 : ACode := (.region (⟨(some 106), (.r (.load 12 true (.t 11))), none⟩ :: ⟨(some 107), (.r (.load 12 true (.t 13))), none⟩ :: ⟨(some 108), (.p (.eqs [1, 1, 1, 1, 1, 1, 1, 1, 1, 1, 1, 0] true (.t 106) (.t 107))), none⟩ :: ⟨(some 109), (.p (.mv (.t 108))), none⟩ :: ⟨(some 110), (.p (.mv (.t 12))), (some (109, false))⟩ :: ⟨(some 111), (.p (.mv (.t 15))), (some (109, false))⟩ :: ⟨(some 112), (.p (.bin .neq (.t 110) (.t 111))), (some (109, false))⟩ :: ⟨(some 113), (.p (.pick (.t 109) (.c (.bool true)) (.t 112))), none⟩ :: []))
def k9_17 : ACode := (.seq k9_16 (.cond (.t 113) (.seq (.region (⟨(some 10), (.p (.mv (.c (.bool false)))), none⟩ :: [])) .ret) .skip))
def k9_18 : ACode := (.region (⟨(some 115), (.r (.load 12 true (.t 5))), none⟩ :: ⟨(some 116), (.r (.call 49 [(.t 115)])), none⟩ :: ⟨(some 114), (.p (.mv (.t 116))), none⟩ :: ⟨(some 117), (.p (.ext (.t 114) 0)), none⟩ :: ⟨(some 118), (.p (.ext (.t 114) 1)), none⟩ :: ⟨(some 16), (.p (.mv (.t 117))), none⟩ :: ⟨(some 12), (.p (.mv (.t 118))), none⟩ :: []))
def k9_19 : ACode := (.region (⟨(some 120), (.r (.load 12 true (.t 5))), none⟩ :: ⟨(some 121), (.r (.call 50 [(.t 120)])), none⟩ :: ⟨(some 119), (.p (.mv (.t 121))), none⟩ :: ⟨(some 122), (.p (.ext (.t 119) 0)), none⟩ :: ⟨(some 123), (.p (.ext (.t 119) 1)), none⟩ :: ⟨(some 17), (.p (.mv (.t 122))), none⟩ :: ⟨(some 15), (.p (.mv (.t 123))), none⟩ :: []))
def k9_20 : ACode := (.draw (⟨(some 124), (.p (.mv (.t 16))), none⟩ :: ⟨(some 125), (.p (.mv (.t 17))), none⟩ :: ⟨(some 126), (.p (.bin .eql (.t 124) (.t 125))), none⟩ :: ⟨(some 127), (.p (.mv (.t 126))), none⟩ :: ⟨(some 128), (.p (.mv (.t 12))), (some (127, true))⟩ :: ⟨(some 129), (.p (.mv (.t 15))), (some (127, true))⟩ :: ⟨(some 130), (.p (.bin .eql (.t 128) (.t 129))), (some (127, true))⟩ :: ⟨(some 131), (.p (.pick (.t 127) (.t 130) (.c (.bool false)))), none⟩ :: ⟨(some 132), (.p (.mv (.t 131))), none⟩ :: ⟨(some 133), (.r (.load 12 true (.t 5))), (some (132, true))⟩ :: ⟨(some 134), (.r (.call 37 [(.t 133)])), (some (132, true))⟩ :: ⟨(some 135), (.r (.load 12 true (.t 5))), (some (132, true))⟩ :: ⟨(some 136), (.r (.call 51 [(.t 135)])), (some (132, true))⟩ :: ⟨(some 137), (.p (.bin .eql (.t 134) (.t 136))), (some (132, true))⟩ :: ⟨(some 138), (.p (.pick (.t 132) (.t 137) (.c (.bool false)))), none⟩ :: ⟨(some 10), (.p (.mv (.t 138))), none⟩ :: []))
def k9_21 : ACode := (.seq k9_20 .ret)
def k9_22 : ACode := (.seq k9_19 k9_21)
def k9_23 : ACode := (.seq k9_18 k9_22)
def k9_24 : ACode := (.seq k9_17 k9_23)
def k9_25 : ACode := (.seq k9_15 k9_24)
def k9_26 : ACode := (.seq k9_14 k9_25)
def k9_27 : ACode := (.seq k9_13 k9_26)
def k9_28 : ACode := (.seq k9_11 k9_27)
def k9_29 : ACode := (.seq k9_10 k9_28)
def k9_30 : ACode := (.seq k9_9 k9_29)
def k9_31 : ACode := (.seq k9_7 k9_30)
def k9_32 : ACode := (.seq k9_6 k9_31)
def k9_33 : ACode := (.seq k9_5 k9_32)
def k9_34 : ACode := (.seq k9_3 k9_33)
def k9_35 : ACode := (.seq k9_2 k9_34)
def k9_36 : ACode := (.seq k9_1 k9_35)
def cd9 : ACode := (.seq k9_0 k9_36)
def rs9 : List ARes := [(.tmp 10)]
def af9 : AFn := ⟨cd9, rs9, 139⟩
theorem c9 : compF Try.prog 9 = some af9 := by kernel_rfl
noncomputable def g_snafflelaw07_OrderRight (p_o : OrderT) (p_r : RecT) (p_n : NoteT) (p_qty : Int) (p_price : Int) : Option Bool := (Option.bind (g_snafflelaw07_awake) fun v1 => (bif (!v1) then (some false) else (Option.bind (g_order_Begin p_r) fun v2 => (Option.bind (g_snaffleref07_Begin p_r) fun v3 => (Option.bind ((Option.bind (g_order_Right p_o) fun v6 => (Option.bind (g_snaffleref07_Right p_o) fun v7 => (bif (v6 != v7) then (some true) else (bif (!((v2.1.Id == v3.1.Id) && ((v2.1.Account == v3.1.Account) && ((v2.1.Symbol == v3.1.Symbol) && ((v2.1.Side == v3.1.Side) && ((v2.1.Qty == v3.1.Qty) && ((v2.1.Price == v3.1.Price) && ((v2.1.Filled == v3.1.Filled) && ((v2.1.Phase == v3.1.Phase) && ((v2.1.NewQty == v3.1.NewQty) && ((v2.1.NewPrice == v3.1.NewPrice) && ((v2.1.Version == v3.1.Version) && ((v2.1.Asked == v3.1.Asked) && true))))))))))))) then (some true) else (bif ((v2.2 == 0) != v3.2) then (some true) else (bif (!v3.2) then (some (v2.2 != 1)) else (some false))))))) : Option (Bool)) (fun (j4 : Bool) => (bif j4 then (some false) else (Option.bind (g_order_Take p_o p_n) fun v12 => (Option.bind (g_snaffleref07_Take p_o p_n) fun v13 => (bif ((!((v12.1.Id == v13.1.Id) && ((v12.1.Account == v13.1.Account) && ((v12.1.Symbol == v13.1.Symbol) && ((v12.1.Side == v13.1.Side) && ((v12.1.Qty == v13.1.Qty) && ((v12.1.Price == v13.1.Price) && ((v12.1.Filled == v13.1.Filled) && ((v12.1.Phase == v13.1.Phase) && ((v12.1.NewQty == v13.1.NewQty) && ((v12.1.NewPrice == v13.1.NewPrice) && ((v12.1.Version == v13.1.Version) && ((v12.1.Asked == v13.1.Asked) && true))))))))))))) || (v12.2 != v13.2)) then (some false) else (Option.bind (g_order_Change p_o p_qty p_price) fun v17 => (Option.bind (g_snaffleref07_Change p_o p_qty p_price) fun v18 => (bif ((!((v17.1.Id == v18.1.Id) && ((v17.1.Account == v18.1.Account) && ((v17.1.Symbol == v18.1.Symbol) && ((v17.1.Side == v18.1.Side) && ((v17.1.Qty == v18.1.Qty) && ((v17.1.Price == v18.1.Price) && ((v17.1.Filled == v18.1.Filled) && ((v17.1.Phase == v18.1.Phase) && ((v17.1.NewQty == v18.1.NewQty) && ((v17.1.NewPrice == v18.1.NewPrice) && ((v17.1.Version == v18.1.Version) && ((v17.1.Asked == v18.1.Asked) && true))))))))))))) || (v17.2 != v18.2)) then (some false) else (Option.bind (g_order_End p_o) fun v22 => (Option.bind (g_snaffleref07_End p_o) fun v23 => (bif ((!((v22.1.Id == v23.1.Id) && ((v22.1.Account == v23.1.Account) && ((v22.1.Symbol == v23.1.Symbol) && ((v22.1.Side == v23.1.Side) && ((v22.1.Qty == v23.1.Qty) && ((v22.1.Price == v23.1.Price) && ((v22.1.Filled == v23.1.Filled) && ((v22.1.Phase == v23.1.Phase) && ((v22.1.NewQty == v23.1.NewQty) && ((v22.1.NewPrice == v23.1.NewPrice) && ((v22.1.Version == v23.1.Version) && ((v22.1.Asked == v23.1.Asked) && true))))))))))))) || (v22.2 != v23.2)) then (some false) else (Option.bind (g_order_Worth p_o) fun v27 => (Option.bind (g_snaffleref07_Worth p_o) fun v28 => (Option.bind ((bif (v27.1 == v28.1) then (bif (v27.2 == v28.2) then (Option.bind (g_order_Open p_o) fun v33 => (Option.bind (g_snaffleref07_Open p_o) fun v34 => (some (v33 == v34)))) else (some false)) else (some false)) : Option (Bool)) (fun (j29 : Bool) => (some j29)))))))))))))))))))))
noncomputable def sp9 : List DV → Option DV := specT (fun (a : OrderT × RecT × NoteT × Int × Int) => [.agg (e_OrderT a.1), .agg (e_RecT a.2.1), .agg (e_NoteT a.2.2.1), .int .i64 a.2.2.2.1, .int .i64 a.2.2.2.2]) (fun (r : Bool) => .bool r) (fun (a : OrderT × RecT × NoteT × Int × Int) => g_snafflelaw07_OrderRight a.1 a.2.1 a.2.2.1 a.2.2.2.1 a.2.2.2.2)
theorem inj9 : ∀ (a b : OrderT × RecT × NoteT × Int × Int), List.map z1 ((fun (a : OrderT × RecT × NoteT × Int × Int) => [.agg (e_OrderT a.1), .agg (e_RecT a.2.1), .agg (e_NoteT a.2.2.1), .int .i64 a.2.2.2.1, .int .i64 a.2.2.2.2]) a) = List.map z1 ((fun (a : OrderT × RecT × NoteT × Int × Int) => [.agg (e_OrderT a.1), .agg (e_RecT a.2.1), .agg (e_NoteT a.2.2.1), .int .i64 a.2.2.2.1, .int .i64 a.2.2.2.2]) b) → a = b := by
 rintro ⟨a0, a1, a2, a3, a4⟩ ⟨b0, b1, b2, b3, b4⟩ h
 simp only [List.map_cons, List.map_nil, List.cons.injEq, and_true] at h
 obtain ⟨h0, h1, h2, h3, h4⟩ := h
 exact (pair_eq (e_OrderT_inj (DV.agg.inj h0)) (pair_eq (e_RecT_inj (DV.agg.inj h1)) (pair_eq (e_NoteT_inj (DV.agg.inj h2)) (pair_eq (DV.int.inj h3).2 (DV.int.inj h4).2))))
set_option maxHeartbeats 1000000 in
theorem w9 {C : FuncId → Con} (hC : ConOk Try.prog C) {q38 : List DV → Option DV} (hc38 : C 38 = .val q38) (hs38 : ∀ (ds : List DV), List.map z1 ds = List.map z1 [] → q38 ds = (g_snafflelaw07_awake).map fun r => .bool r) {q39 : List DV → Option DV} (hc39 : C 39 = .val q39) (hs39 : ∀ (x0 : RecT) (ds : List DV), List.map z1 ds = List.map z1 [.agg (e_RecT x0)] → q39 ds = (g_order_Begin x0).map fun r => .tup [.agg (e_OrderT r.1), .int .i64 r.2]) {q40 : List DV → Option DV} (hc40 : C 40 = .val q40) (hs40 : ∀ (x0 : RecT) (ds : List DV), List.map z1 ds = List.map z1 [.agg (e_RecT x0)] → q40 ds = (g_snaffleref07_Begin x0).map fun r => .tup [.agg (e_OrderT r.1), .bool r.2]) {q41 : List DV → Option DV} (hc41 : C 41 = .val q41) (hs41 : ∀ (x0 : OrderT) (ds : List DV), List.map z1 ds = List.map z1 [.agg (e_OrderT x0)] → q41 ds = (g_order_Right x0).map fun r => .bool r) {q42 : List DV → Option DV} (hc42 : C 42 = .val q42) (hs42 : ∀ (x0 : OrderT) (ds : List DV), List.map z1 ds = List.map z1 [.agg (e_OrderT x0)] → q42 ds = (g_snaffleref07_Right x0).map fun r => .bool r) {q43 : List DV → Option DV} (hc43 : C 43 = .val q43) (hs43 : ∀ (x0 : OrderT) (x1 : NoteT) (ds : List DV), List.map z1 ds = List.map z1 [.agg (e_OrderT x0), .agg (e_NoteT x1)] → q43 ds = (g_order_Take x0 x1).map fun r => .tup [.agg (e_OrderT r.1), .int .i64 r.2]) {q44 : List DV → Option DV} (hc44 : C 44 = .val q44) (hs44 : ∀ (x0 : OrderT) (x1 : NoteT) (ds : List DV), List.map z1 ds = List.map z1 [.agg (e_OrderT x0), .agg (e_NoteT x1)] → q44 ds = (g_snaffleref07_Take x0 x1).map fun r => .tup [.agg (e_OrderT r.1), .int .i64 r.2]) {q45 : List DV → Option DV} (hc45 : C 45 = .val q45) (hs45 : ∀ (x0 : OrderT) (x1 : Int) (x2 : Int) (ds : List DV), List.map z1 ds = List.map z1 [.agg (e_OrderT x0), .int .i64 x1, .int .i64 x2] → q45 ds = (g_order_Change x0 x1 x2).map fun r => .tup [.agg (e_OrderT r.1), .int .i64 r.2]) {q46 : List DV → Option DV} (hc46 : C 46 = .val q46) (hs46 : ∀ (x0 : OrderT) (x1 : Int) (x2 : Int) (ds : List DV), List.map z1 ds = List.map z1 [.agg (e_OrderT x0), .int .i64 x1, .int .i64 x2] → q46 ds = (g_snaffleref07_Change x0 x1 x2).map fun r => .tup [.agg (e_OrderT r.1), .int .i64 r.2]) {q47 : List DV → Option DV} (hc47 : C 47 = .val q47) (hs47 : ∀ (x0 : OrderT) (ds : List DV), List.map z1 ds = List.map z1 [.agg (e_OrderT x0)] → q47 ds = (g_order_End x0).map fun r => .tup [.agg (e_OrderT r.1), .int .i64 r.2]) {q48 : List DV → Option DV} (hc48 : C 48 = .val q48) (hs48 : ∀ (x0 : OrderT) (ds : List DV), List.map z1 ds = List.map z1 [.agg (e_OrderT x0)] → q48 ds = (g_snaffleref07_End x0).map fun r => .tup [.agg (e_OrderT r.1), .int .i64 r.2]) {q49 : List DV → Option DV} (hc49 : C 49 = .val q49) (hs49 : ∀ (x0 : OrderT) (ds : List DV), List.map z1 ds = List.map z1 [.agg (e_OrderT x0)] → q49 ds = (g_order_Worth x0).map fun r => .tup [.int .i64 r.1, .int .i64 r.2]) {q50 : List DV → Option DV} (hc50 : C 50 = .val q50) (hs50 : ∀ (x0 : OrderT) (ds : List DV), List.map z1 ds = List.map z1 [.agg (e_OrderT x0)] → q50 ds = (g_snaffleref07_Worth x0).map fun r => .tup [.int .i64 r.1, .int .i64 r.2]) {q37 : List DV → Option DV} (hc37 : C 37 = .val q37) (hs37 : ∀ (x0 : OrderT) (ds : List DV), List.map z1 ds = List.map z1 [.agg (e_OrderT x0)] → q37 ds = (g_order_Open x0).map fun r => .int .i64 r) {q51 : List DV → Option DV} (hc51 : C 51 = .val q51) (hs51 : ∀ (x0 : OrderT) (ds : List DV), List.map z1 ds = List.map z1 [.agg (e_OrderT x0)] → q51 ds = (g_snaffleref07_Open x0).map fun r => .int .i64 r) : ValOk Try.prog 9 sp9 := by
 refine valT_of hC c9 _ _ _ inj9 ?_
 rintro ⟨p_o, p_r, p_n, p_qty, p_price⟩
 show Imq (g_snafflelaw07_OrderRight p_o p_r p_n p_qty p_price) (fun _ => True) fun r => WP Try.prog C (fun _ => False) cd9 (retQ fun s => outV s rs9 = some (.bool r)) ⟨⟨139, [(0, (.val (.agg [(.int .i64 p_o.Id), (.int .i64 p_o.Account), (.int .i64 p_o.Symbol), (.int .i64 p_o.Side), (.int .i64 p_o.Qty), (.int .i64 p_o.Price), (.int .i64 p_o.Filled), (.int .i64 p_o.Phase), (.int .i64 p_o.NewQty), (.int .i64 p_o.NewPrice), (.int .i64 p_o.Version), (.bool p_o.Asked)]))), (1, (.val (.agg [(.int .i64 p_r.Kind), (.int .i64 p_r.Order), (.int .i64 p_r.Account), (.int .i64 p_r.Symbol), (.int .i64 p_r.Side), (.int .i64 p_r.Qty), (.int .i64 p_r.Price), (.int .i64 p_r.Long), (.int .i64 p_r.Short), (.int .i64 p_r.Open), (.bool p_r.On), (.int .i64 p_r.Seq), (.int .i64 p_r.What)]))), (2, (.val (.agg [(.int .i64 p_n.Seq), (.int .i64 p_n.What), (.int .i64 p_n.Order), (.int .i64 p_n.Qty), (.int .i64 p_n.Price)]))), (3, (ii p_qty)), (4, (ii p_price))]⟩, mkH []⟩
 unfold g_snafflelaw07_OrderRight
 refine G_seq ?_
 refine G_region ?_
 refine G_op [1001] (v := (.box [1001] 0)) (E_a (u := (.box [1001] 0)) (b := (.box (lOrderT p_o))) (h' := [([1001], (.box (lOrderT p_o)))]) (by kernel_rfl) (by kernel_rfl) (by kernel_rfl)) rfl rfl ?_
 refine G_op [1002] (v := (.box [1002] 0)) (E_a (u := (.box [1002] 0)) (b := (.box (lRecT p_r))) (h' := [([1001], (.box (lOrderT p_o))), ([1002], (.box (lRecT p_r)))]) (by kernel_rfl) (by kernel_rfl) (by kernel_rfl)) rfl rfl ?_
 refine G_op [1003] (v := (.box [1003] 0)) (E_a (u := (.box [1003] 0)) (b := (.box (lNoteT p_n))) (h' := [([1001], (.box (lOrderT p_o))), ([1002], (.box (lRecT p_r))), ([1003], (.box (lNoteT p_n)))]) (by kernel_rfl) (by kernel_rfl) (by kernel_rfl)) rfl rfl ?_
 refine G_op [0] (v := (bb false)) (E_p (by kernel_rfl)) rfl rfl ?_
 refine G_nil ?_
 refine G_then ?_
 refine G_seq ?_
 refine G_seq ?_
 refine G_region ?_
 refine q_bind fun v1 hv1 => ?_
 refine G_op [0] (v := (bb v1)) (E_call (ds := []) (r := .bool v1) hc38 (by kernel_rfl) ((hs38 _ (by kernel_rfl)).trans (congrArg _ hv1))) rfl rfl ?_
 refine G_op [0] (v := (bb ((!v1)))) (E_p (by kernel_rfl)) rfl rfl ?_
 refine G_nil ?_
 refine G_then ?_
 refine G_cond (t := (!v1)) (by kernel_rfl) (fun _ => ?_) (fun _ => ?_)
 ·refine G_seq ?_
  refine G_region ?_
  refine G_op [0] (v := (bb false)) (E_p (by kernel_rfl)) rfl rfl ?_
  refine G_nil ?_
  refine G_then ?_
  refine G_ret ?_
  refine G_thenR ?_
  refine G_retR ?_
  refine q_some fun hA => ?_
  show outV _ _ = some _
  kernel_rfl
 ·refine G_skip ?_
  refine G_then ?_
  refine G_seq ?_
  refine G_region ?_
  refine G_op [0] (v := (.agg (lRecT p_r))) (E_load (by kernel_rfl)) rfl rfl ?_
  refine q_bind fun v2 hv2 => ?_
  refine G_op [0] (v := (.val (.tup [(.agg [(.int .i64 v2.1.Id), (.int .i64 v2.1.Account), (.int .i64 v2.1.Symbol), (.int .i64 v2.1.Side), (.int .i64 v2.1.Qty), (.int .i64 v2.1.Price), (.int .i64 v2.1.Filled), (.int .i64 v2.1.Phase), (.int .i64 v2.1.NewQty), (.int .i64 v2.1.NewPrice), (.int .i64 v2.1.Version), (.bool v2.1.Asked)]), (.int .i64 v2.2)]))) (E_call (ds := [.agg (e_RecT p_r)]) (r := .tup [.agg (e_OrderT v2.1), .int .i64 v2.2]) hc39 (by kernel_rfl) ((hs39 p_r _ (by kernel_rfl)).trans (congrArg _ hv2))) rfl rfl ?_
  refine G_op [0] (v := (.val (.tup [(.agg [(.int .i64 v2.1.Id), (.int .i64 v2.1.Account), (.int .i64 v2.1.Symbol), (.int .i64 v2.1.Side), (.int .i64 v2.1.Qty), (.int .i64 v2.1.Price), (.int .i64 v2.1.Filled), (.int .i64 v2.1.Phase), (.int .i64 v2.1.NewQty), (.int .i64 v2.1.NewPrice), (.int .i64 v2.1.Version), (.bool v2.1.Asked)]), (.int .i64 v2.2)]))) (E_p (by kernel_rfl)) rfl rfl ?_
  refine G_op [0] (v := (.val (.agg [(.int .i64 v2.1.Id), (.int .i64 v2.1.Account), (.int .i64 v2.1.Symbol), (.int .i64 v2.1.Side), (.int .i64 v2.1.Qty), (.int .i64 v2.1.Price), (.int .i64 v2.1.Filled), (.int .i64 v2.1.Phase), (.int .i64 v2.1.NewQty), (.int .i64 v2.1.NewPrice), (.int .i64 v2.1.Version), (.bool v2.1.Asked)]))) (E_p (by kernel_rfl)) rfl rfl ?_
  refine G_op [0] (v := (ii v2.2)) (E_p (by kernel_rfl)) rfl rfl ?_
  refine G_op [1004] (v := (.box [1004] 0)) (E_a (u := (.box [1004] 0)) (b := (.box zOrderT)) (h' := [([1001], (.box (lOrderT p_o))), ([1002], (.box (lRecT p_r))), ([1003], (.box (lNoteT p_n))), ([1004], (.box zOrderT))]) (by kernel_rfl) (by kernel_rfl) (by kernel_rfl)) rfl rfl ?_
  refine G_op0 [0] (v := (.val (.tup []))) (E_store (b := [1004]) (o := 0) (cs := (lOrderT v2.1)) (cells := zOrderT) (cells' := (lOrderT v2.1)) (h' := [([1001], (.box (lOrderT p_o))), ([1002], (.box (lRecT p_r))), ([1003], (.box (lNoteT p_n))), ([1004], (.box (lOrderT v2.1)))]) (by kernel_rfl) (by kernel_rfl) (by kernel_rfl) rfl (by kernel_rfl) (by kernel_rfl) (by kernel_rfl) (by kernel_rfl)) rfl ?_
  refine G_op [0] (v := (ii v2.2)) (E_p (by kernel_rfl)) rfl rfl ?_
  refine G_nil ?_
  refine G_then ?_
  refine G_subW (s0 := ⟨⟨139, [(12, (ii v2.2)), (11, (.box [1004] 0)), (10, (bb false)), (7, (.box [1003] 0)), (6, (.box [1002] 0)), (5, (.box [1001] 0)), (3, (ii p_qty)), (4, (ii p_price))]⟩, mkH [([1001], (.box (lOrderT p_o))), ([1002], (.box (lRecT p_r))), ([1003], (.box (lNoteT p_n))), ([1004], (.box (lOrderT v2.1)))]⟩) (by exact Sub_env ⟨.refl _, .refl _, .refl _, .refl _, .refl _, .refl _, .refl _, .refl _, trivial⟩) ?_
  refine G_seq ?_
  refine G_region ?_
  refine G_op [0] (v := (.agg (lRecT p_r))) (E_load (by kernel_rfl)) rfl rfl ?_
  refine q_bind fun v3 hv3 => ?_
  refine G_op [0] (v := (.val (.tup [(.agg [(.int .i64 v3.1.Id), (.int .i64 v3.1.Account), (.int .i64 v3.1.Symbol), (.int .i64 v3.1.Side), (.int .i64 v3.1.Qty), (.int .i64 v3.1.Price), (.int .i64 v3.1.Filled), (.int .i64 v3.1.Phase), (.int .i64 v3.1.NewQty), (.int .i64 v3.1.NewPrice), (.int .i64 v3.1.Version), (.bool v3.1.Asked)]), (.bool v3.2)]))) (E_call (ds := [.agg (e_RecT p_r)]) (r := .tup [.agg (e_OrderT v3.1), .bool v3.2]) hc40 (by kernel_rfl) ((hs40 p_r _ (by kernel_rfl)).trans (congrArg _ hv3))) rfl rfl ?_
  refine G_op [0] (v := (.val (.tup [(.agg [(.int .i64 v3.1.Id), (.int .i64 v3.1.Account), (.int .i64 v3.1.Symbol), (.int .i64 v3.1.Side), (.int .i64 v3.1.Qty), (.int .i64 v3.1.Price), (.int .i64 v3.1.Filled), (.int .i64 v3.1.Phase), (.int .i64 v3.1.NewQty), (.int .i64 v3.1.NewPrice), (.int .i64 v3.1.Version), (.bool v3.1.Asked)]), (.bool v3.2)]))) (E_p (by kernel_rfl)) rfl rfl ?_
  refine G_op [0] (v := (.val (.agg [(.int .i64 v3.1.Id), (.int .i64 v3.1.Account), (.int .i64 v3.1.Symbol), (.int .i64 v3.1.Side), (.int .i64 v3.1.Qty), (.int .i64 v3.1.Price), (.int .i64 v3.1.Filled), (.int .i64 v3.1.Phase), (.int .i64 v3.1.NewQty), (.int .i64 v3.1.NewPrice), (.int .i64 v3.1.Version), (.bool v3.1.Asked)]))) (E_p (by kernel_rfl)) rfl rfl ?_
  refine G_op [0] (v := (bb v3.2)) (E_p (by kernel_rfl)) rfl rfl ?_
  refine G_op [1005] (v := (.box [1005] 0)) (E_a (u := (.box [1005] 0)) (b := (.box zOrderT)) (h' := [([1001], (.box (lOrderT p_o))), ([1002], (.box (lRecT p_r))), ([1003], (.box (lNoteT p_n))), ([1004], (.box (lOrderT v2.1))), ([1005], (.box zOrderT))]) (by kernel_rfl) (by kernel_rfl) (by kernel_rfl)) rfl rfl ?_
  refine G_op0 [0] (v := (.val (.tup []))) (E_store (b := [1005]) (o := 0) (cs := (lOrderT v3.1)) (cells := zOrderT) (cells' := (lOrderT v3.1)) (h' := [([1001], (.box (lOrderT p_o))), ([1002], (.box (lRecT p_r))), ([1003], (.box (lNoteT p_n))), ([1004], (.box (lOrderT v2.1))), ([1005], (.box (lOrderT v3.1)))]) (by kernel_rfl) (by kernel_rfl) (by kernel_rfl) rfl (by kernel_rfl) (by kernel_rfl) (by kernel_rfl) (by kernel_rfl)) rfl ?_
  refine G_op [0] (v := (bb v3.2)) (E_p (by kernel_rfl)) rfl rfl ?_
  refine G_nil ?_
  refine G_then ?_
  refine G_seq ?_
  refine G_seq ?_
  refine G_join (st := fun j4 => ⟨⟨139, [(53, (bb j4)), (13, (.box [1005] 0)), (12, (ii v2.2)), (11, (.box [1004] 0)), (10, (bb false)), (7, (.box [1003] 0)), (5, (.box [1001] 0)), (3, (ii p_qty)), (4, (ii p_price))]⟩, mkH [([1001], (.box (lOrderT p_o))), ([1003], (.box (lNoteT p_n))), ([1004], (.box (lOrderT v2.1))), ([1005], (.box (lOrderT v3.1)))]⟩) (fun j4 => ?_) (fun r5 hr5 => ?_)
  ·refine G_then ?_
   refine G_cond (t := j4) (by kernel_rfl) (fun _ => ?_) (fun _ => ?_)
   ·refine G_seq ?_
    refine G_region ?_
    refine G_op [0] (v := (bb false)) (E_p (by kernel_rfl)) rfl rfl ?_
    refine G_nil ?_
    refine G_then ?_
    refine G_ret ?_
    refine G_thenR ?_
    refine G_retR ?_
    refine q_some fun hA => ?_
    show outV _ _ = some _
    kernel_rfl
   ·refine G_skip ?_
    refine G_then ?_
    refine G_seq ?_
    refine G_region ?_
    refine G_op [0] (v := (.agg (lOrderT p_o))) (E_load (by kernel_rfl)) rfl rfl ?_
    refine G_op [0] (v := (.agg (lNoteT p_n))) (E_load (by kernel_rfl)) rfl rfl ?_
    refine q_bind fun v12 hv12 => ?_
    refine G_op [0] (v := (.val (.tup [(.agg [(.int .i64 v12.1.Id), (.int .i64 v12.1.Account), (.int .i64 v12.1.Symbol), (.int .i64 v12.1.Side), (.int .i64 v12.1.Qty), (.int .i64 v12.1.Price), (.int .i64 v12.1.Filled), (.int .i64 v12.1.Phase), (.int .i64 v12.1.NewQty), (.int .i64 v12.1.NewPrice), (.int .i64 v12.1.Version), (.bool v12.1.Asked)]), (.int .i64 v12.2)]))) (E_call (ds := [.agg (e_OrderT p_o), .agg (e_NoteT p_n)]) (r := .tup [.agg (e_OrderT v12.1), .int .i64 v12.2]) hc43 (by kernel_rfl) ((hs43 p_o p_n _ (by kernel_rfl)).trans (congrArg _ hv12))) rfl rfl ?_
    refine G_op [0] (v := (.val (.tup [(.agg [(.int .i64 v12.1.Id), (.int .i64 v12.1.Account), (.int .i64 v12.1.Symbol), (.int .i64 v12.1.Side), (.int .i64 v12.1.Qty), (.int .i64 v12.1.Price), (.int .i64 v12.1.Filled), (.int .i64 v12.1.Phase), (.int .i64 v12.1.NewQty), (.int .i64 v12.1.NewPrice), (.int .i64 v12.1.Version), (.bool v12.1.Asked)]), (.int .i64 v12.2)]))) (E_p (by kernel_rfl)) rfl rfl ?_
    refine G_op [0] (v := (.val (.agg [(.int .i64 v12.1.Id), (.int .i64 v12.1.Account), (.int .i64 v12.1.Symbol), (.int .i64 v12.1.Side), (.int .i64 v12.1.Qty), (.int .i64 v12.1.Price), (.int .i64 v12.1.Filled), (.int .i64 v12.1.Phase), (.int .i64 v12.1.NewQty), (.int .i64 v12.1.NewPrice), (.int .i64 v12.1.Version), (.bool v12.1.Asked)]))) (E_p (by kernel_rfl)) rfl rfl ?_
    refine G_op [0] (v := (ii v12.2)) (E_p (by kernel_rfl)) rfl rfl ?_
    refine G_op0 [0] (v := (.val (.tup []))) (E_store (b := [1004]) (o := 0) (cs := (lOrderT v12.1)) (cells := (lOrderT v2.1)) (cells' := (lOrderT v12.1)) (h' := [([1001], (.box (lOrderT p_o))), ([1003], (.box (lNoteT p_n))), ([1004], (.box (lOrderT v12.1))), ([1005], (.box (lOrderT v3.1)))]) (by kernel_rfl) (by kernel_rfl) (by kernel_rfl) rfl (by kernel_rfl) (by kernel_rfl) (by kernel_rfl) (by kernel_rfl)) rfl ?_
    refine G_op [0] (v := (ii v12.2)) (E_p (by kernel_rfl)) rfl rfl ?_
    refine G_nil ?_
    refine G_then ?_
    refine G_seq ?_
    refine G_region ?_
    refine G_op [0] (v := (.agg (lOrderT p_o))) (E_load (by kernel_rfl)) rfl rfl ?_
    refine G_op [0] (v := (.agg (lNoteT p_n))) (E_load (by kernel_rfl)) rfl rfl ?_
    refine q_bind fun v13 hv13 => ?_
    refine G_op [0] (v := (.val (.tup [(.agg [(.int .i64 v13.1.Id), (.int .i64 v13.1.Account), (.int .i64 v13.1.Symbol), (.int .i64 v13.1.Side), (.int .i64 v13.1.Qty), (.int .i64 v13.1.Price), (.int .i64 v13.1.Filled), (.int .i64 v13.1.Phase), (.int .i64 v13.1.NewQty), (.int .i64 v13.1.NewPrice), (.int .i64 v13.1.Version), (.bool v13.1.Asked)]), (.int .i64 v13.2)]))) (E_call (ds := [.agg (e_OrderT p_o), .agg (e_NoteT p_n)]) (r := .tup [.agg (e_OrderT v13.1), .int .i64 v13.2]) hc44 (by kernel_rfl) ((hs44 p_o p_n _ (by kernel_rfl)).trans (congrArg _ hv13))) rfl rfl ?_
    refine G_op [0] (v := (.val (.tup [(.agg [(.int .i64 v13.1.Id), (.int .i64 v13.1.Account), (.int .i64 v13.1.Symbol), (.int .i64 v13.1.Side), (.int .i64 v13.1.Qty), (.int .i64 v13.1.Price), (.int .i64 v13.1.Filled), (.int .i64 v13.1.Phase), (.int .i64 v13.1.NewQty), (.int .i64 v13.1.NewPrice), (.int .i64 v13.1.Version), (.bool v13.1.Asked)]), (.int .i64 v13.2)]))) (E_p (by kernel_rfl)) rfl rfl ?_
    refine G_op [0] (v := (.val (.agg [(.int .i64 v13.1.Id), (.int .i64 v13.1.Account), (.int .i64 v13.1.Symbol), (.int .i64 v13.1.Side), (.int .i64 v13.1.Qty), (.int .i64 v13.1.Price), (.int .i64 v13.1.Filled), (.int .i64 v13.1.Phase), (.int .i64 v13.1.NewQty), (.int .i64 v13.1.NewPrice), (.int .i64 v13.1.Version), (.bool v13.1.Asked)]))) (E_p (by kernel_rfl)) rfl rfl ?_
    refine G_op [0] (v := (ii v13.2)) (E_p (by kernel_rfl)) rfl rfl ?_
    refine G_op0 [0] (v := (.val (.tup []))) (E_store (b := [1005]) (o := 0) (cs := (lOrderT v13.1)) (cells := (lOrderT v3.1)) (cells' := (lOrderT v13.1)) (h' := [([1001], (.box (lOrderT p_o))), ([1003], (.box (lNoteT p_n))), ([1004], (.box (lOrderT v12.1))), ([1005], (.box (lOrderT v13.1)))]) (by kernel_rfl) (by kernel_rfl) (by kernel_rfl) rfl (by kernel_rfl) (by kernel_rfl) (by kernel_rfl) (by kernel_rfl)) rfl ?_
    refine G_op [0] (v := (ii v13.2)) (E_p (by kernel_rfl)) rfl rfl ?_
    refine G_nil ?_
    refine G_then ?_
    refine G_subW (s0 := ⟨⟨139, [(15, (ii v13.2)), (12, (ii v12.2)), (13, (.box [1005] 0)), (11, (.box [1004] 0)), (10, (bb false)), (5, (.box [1001] 0)), (3, (ii p_qty)), (4, (ii p_price))]⟩, mkH [([1001], (.box (lOrderT p_o))), ([1004], (.box (lOrderT v12.1))), ([1005], (.box (lOrderT v13.1)))]⟩) (by exact Sub_keep ⟨.refl _, .refl _, .refl _, .refl _, .refl _, .refl _, .refl _, .refl _, trivial⟩ ⟨⟨_, (by kernel_rfl), .refl _⟩, ⟨_, (by kernel_rfl), .refl _⟩, ⟨_, (by kernel_rfl), .refl _⟩, trivial⟩ (by kernel_rfl) (by kernel_rfl)) ?_
    refine G_seq ?_
    refine G_seq ?_
    refine G_region ?_
    refine G_op [0] (v := (.agg (lOrderT v12.1))) (E_load (by kernel_rfl)) rfl rfl ?_
    refine G_op [0] (v := (.agg (lOrderT v13.1))) (E_load (by kernel_rfl)) rfl rfl ?_
    refine G_op [0] (v := (bb ((!((v12.1.Id == v13.1.Id) && ((v12.1.Account == v13.1.Account) && ((v12.1.Symbol == v13.1.Symbol) && ((v12.1.Side == v13.1.Side) && ((v12.1.Qty == v13.1.Qty) && ((v12.1.Price == v13.1.Price) && ((v12.1.Filled == v13.1.Filled) && ((v12.1.Phase == v13.1.Phase) && ((v12.1.NewQty == v13.1.NewQty) && ((v12.1.NewPrice == v13.1.NewPrice) && ((v12.1.Version == v13.1.Version) && ((v12.1.Asked == v13.1.Asked) && true)))))))))))))))) (E_p (by kernel_rfl)) rfl rfl ?_
    refine G_op [0] (v := (bb ((!((v12.1.Id == v13.1.Id) && ((v12.1.Account == v13.1.Account) && ((v12.1.Symbol == v13.1.Symbol) && ((v12.1.Side == v13.1.Side) && ((v12.1.Qty == v13.1.Qty) && ((v12.1.Price == v13.1.Price) && ((v12.1.Filled == v13.1.Filled) && ((v12.1.Phase == v13.1.Phase) && ((v12.1.NewQty == v13.1.NewQty) && ((v12.1.NewPrice == v13.1.NewPrice) && ((v12.1.Version == v13.1.Version) && ((v12.1.Asked == v13.1.Asked) && true)))))))))))))))) (E_p (by kernel_rfl)) rfl rfl ?_
    refine G_pure (l := []) (st := ⟨⟨139, [(73, (bb (((!((v12.1.Id == v13.1.Id) && ((v12.1.Account == v13.1.Account) && ((v12.1.Symbol == v13.1.Symbol) && ((v12.1.Side == v13.1.Side) && ((v12.1.Qty == v13.1.Qty) && ((v12.1.Price == v13.1.Price) && ((v12.1.Filled == v13.1.Filled) && ((v12.1.Phase == v13.1.Phase) && ((v12.1.NewQty == v13.1.NewQty) && ((v12.1.NewPrice == v13.1.NewPrice) && ((v12.1.Version == v13.1.Version) && ((v12.1.Asked == v13.1.Asked) && true))))))))))))) || (v12.2 != v13.2))))), (15, (ii v13.2)), (12, (ii v12.2)), (13, (.box [1005] 0)), (11, (.box [1004] 0)), (10, (bb false)), (5, (.box [1001] 0)), (3, (ii p_qty)), (4, (ii p_price))]⟩, mkH [([1001], (.box (lOrderT p_o))), ([1004], (.box (lOrderT v12.1))), ([1005], (.box (lOrderT v13.1)))]⟩) ?_ (fun r16 => ?_)
    ·refine G_nil ?_
     refine G_then ?_
     refine G_cond (t := ((!((v12.1.Id == v13.1.Id) && ((v12.1.Account == v13.1.Account) && ((v12.1.Symbol == v13.1.Symbol) && ((v12.1.Side == v13.1.Side) && ((v12.1.Qty == v13.1.Qty) && ((v12.1.Price == v13.1.Price) && ((v12.1.Filled == v13.1.Filled) && ((v12.1.Phase == v13.1.Phase) && ((v12.1.NewQty == v13.1.NewQty) && ((v12.1.NewPrice == v13.1.NewPrice) && ((v12.1.Version == v13.1.Version) && ((v12.1.Asked == v13.1.Asked) && true))))))))))))) || (v12.2 != v13.2))) (by kernel_rfl) (fun _ => ?_) (fun _ => ?_)
     ·refine G_seq ?_
      refine G_region ?_
      refine G_op [0] (v := (bb false)) (E_p (by kernel_rfl)) rfl rfl ?_
      refine G_nil ?_
      refine G_then ?_
      refine G_ret ?_
      refine G_thenR ?_
      refine G_retR ?_
      refine q_some fun hA => ?_
      show outV _ _ = some _
      kernel_rfl
     ·refine G_skip ?_
      refine G_then ?_
      refine G_seq ?_
      refine G_region ?_
      refine G_op [0] (v := (.agg (lOrderT p_o))) (E_load (by kernel_rfl)) rfl rfl ?_
      refine G_op [0] (v := (ii p_qty)) (E_p (by kernel_rfl)) rfl rfl ?_
      refine G_op [0] (v := (ii p_price)) (E_p (by kernel_rfl)) rfl rfl ?_
      refine q_bind fun v17 hv17 => ?_
      refine G_op [0] (v := (.val (.tup [(.agg [(.int .i64 v17.1.Id), (.int .i64 v17.1.Account), (.int .i64 v17.1.Symbol), (.int .i64 v17.1.Side), (.int .i64 v17.1.Qty), (.int .i64 v17.1.Price), (.int .i64 v17.1.Filled), (.int .i64 v17.1.Phase), (.int .i64 v17.1.NewQty), (.int .i64 v17.1.NewPrice), (.int .i64 v17.1.Version), (.bool v17.1.Asked)]), (.int .i64 v17.2)]))) (E_call (ds := [.agg (e_OrderT p_o), .int .i64 p_qty, .int .i64 p_price]) (r := .tup [.agg (e_OrderT v17.1), .int .i64 v17.2]) hc45 (by kernel_rfl) ((hs45 p_o p_qty p_price _ (by kernel_rfl)).trans (congrArg _ hv17))) rfl rfl ?_
      refine G_op [0] (v := (.val (.tup [(.agg [(.int .i64 v17.1.Id), (.int .i64 v17.1.Account), (.int .i64 v17.1.Symbol), (.int .i64 v17.1.Side), (.int .i64 v17.1.Qty), (.int .i64 v17.1.Price), (.int .i64 v17.1.Filled), (.int .i64 v17.1.Phase), (.int .i64 v17.1.NewQty), (.int .i64 v17.1.NewPrice), (.int .i64 v17.1.Version), (.bool v17.1.Asked)]), (.int .i64 v17.2)]))) (E_p (by kernel_rfl)) rfl rfl ?_
      refine G_op [0] (v := (.val (.agg [(.int .i64 v17.1.Id), (.int .i64 v17.1.Account), (.int .i64 v17.1.Symbol), (.int .i64 v17.1.Side), (.int .i64 v17.1.Qty), (.int .i64 v17.1.Price), (.int .i64 v17.1.Filled), (.int .i64 v17.1.Phase), (.int .i64 v17.1.NewQty), (.int .i64 v17.1.NewPrice), (.int .i64 v17.1.Version), (.bool v17.1.Asked)]))) (E_p (by kernel_rfl)) rfl rfl ?_
      refine G_op [0] (v := (ii v17.2)) (E_p (by kernel_rfl)) rfl rfl ?_
      refine G_op0 [0] (v := (.val (.tup []))) (E_store (b := [1004]) (o := 0) (cs := (lOrderT v17.1)) (cells := (lOrderT v12.1)) (cells' := (lOrderT v17.1)) (h' := [([1001], (.box (lOrderT p_o))), ([1004], (.box (lOrderT v17.1))), ([1005], (.box (lOrderT v13.1)))]) (by kernel_rfl) (by kernel_rfl) (by kernel_rfl) rfl (by kernel_rfl) (by kernel_rfl) (by kernel_rfl) (by kernel_rfl)) rfl ?_
      refine G_op [0] (v := (ii v17.2)) (E_p (by kernel_rfl)) rfl rfl ?_
      refine G_nil ?_
      refine G_then ?_
      refine G_seq ?_
      refine G_region ?_
      refine G_op [0] (v := (.agg (lOrderT p_o))) (E_load (by kernel_rfl)) rfl rfl ?_
      refine G_op [0] (v := (ii p_qty)) (E_p (by kernel_rfl)) rfl rfl ?_
      refine G_op [0] (v := (ii p_price)) (E_p (by kernel_rfl)) rfl rfl ?_
      refine q_bind fun v18 hv18 => ?_
      refine G_op [0] (v := (.val (.tup [(.agg [(.int .i64 v18.1.Id), (.int .i64 v18.1.Account), (.int .i64 v18.1.Symbol), (.int .i64 v18.1.Side), (.int .i64 v18.1.Qty), (.int .i64 v18.1.Price), (.int .i64 v18.1.Filled), (.int .i64 v18.1.Phase), (.int .i64 v18.1.NewQty), (.int .i64 v18.1.NewPrice), (.int .i64 v18.1.Version), (.bool v18.1.Asked)]), (.int .i64 v18.2)]))) (E_call (ds := [.agg (e_OrderT p_o), .int .i64 p_qty, .int .i64 p_price]) (r := .tup [.agg (e_OrderT v18.1), .int .i64 v18.2]) hc46 (by kernel_rfl) ((hs46 p_o p_qty p_price _ (by kernel_rfl)).trans (congrArg _ hv18))) rfl rfl ?_
      refine G_op [0] (v := (.val (.tup [(.agg [(.int .i64 v18.1.Id), (.int .i64 v18.1.Account), (.int .i64 v18.1.Symbol), (.int .i64 v18.1.Side), (.int .i64 v18.1.Qty), (.int .i64 v18.1.Price), (.int .i64 v18.1.Filled), (.int .i64 v18.1.Phase), (.int .i64 v18.1.NewQty), (.int .i64 v18.1.NewPrice), (.int .i64 v18.1.Version), (.bool v18.1.Asked)]), (.int .i64 v18.2)]))) (E_p (by kernel_rfl)) rfl rfl ?_
      refine G_op [0] (v := (.val (.agg [(.int .i64 v18.1.Id), (.int .i64 v18.1.Account), (.int .i64 v18.1.Symbol), (.int .i64 v18.1.Side), (.int .i64 v18.1.Qty), (.int .i64 v18.1.Price), (.int .i64 v18.1.Filled), (.int .i64 v18.1.Phase), (.int .i64 v18.1.NewQty), (.int .i64 v18.1.NewPrice), (.int .i64 v18.1.Version), (.bool v18.1.Asked)]))) (E_p (by kernel_rfl)) rfl rfl ?_
      refine G_op [0] (v := (ii v18.2)) (E_p (by kernel_rfl)) rfl rfl ?_
      refine G_op0 [0] (v := (.val (.tup []))) (E_store (b := [1005]) (o := 0) (cs := (lOrderT v18.1)) (cells := (lOrderT v13.1)) (cells' := (lOrderT v18.1)) (h' := [([1001], (.box (lOrderT p_o))), ([1004], (.box (lOrderT v17.1))), ([1005], (.box (lOrderT v18.1)))]) (by kernel_rfl) (by kernel_rfl) (by kernel_rfl) rfl (by kernel_rfl) (by kernel_rfl) (by kernel_rfl) (by kernel_rfl)) rfl ?_
      refine G_op [0] (v := (ii v18.2)) (E_p (by kernel_rfl)) rfl rfl ?_
      refine G_nil ?_
      refine G_then ?_
      refine G_subW (s0 := ⟨⟨139, [(15, (ii v18.2)), (12, (ii v17.2)), (13, (.box [1005] 0)), (11, (.box [1004] 0)), (10, (bb false)), (5, (.box [1001] 0))]⟩, mkH [([1001], (.box (lOrderT p_o))), ([1004], (.box (lOrderT v17.1))), ([1005], (.box (lOrderT v18.1)))]⟩) (by exact Sub_env ⟨.refl _, .refl _, .refl _, .refl _, .refl _, .refl _, trivial⟩) ?_
      refine G_seq ?_
      refine G_seq ?_
      refine G_region ?_
      refine G_op [0] (v := (.agg (lOrderT v17.1))) (E_load (by kernel_rfl)) rfl rfl ?_
      refine G_op [0] (v := (.agg (lOrderT v18.1))) (E_load (by kernel_rfl)) rfl rfl ?_
      refine G_op [0] (v := (bb ((!((v17.1.Id == v18.1.Id) && ((v17.1.Account == v18.1.Account) && ((v17.1.Symbol == v18.1.Symbol) && ((v17.1.Side == v18.1.Side) && ((v17.1.Qty == v18.1.Qty) && ((v17.1.Price == v18.1.Price) && ((v17.1.Filled == v18.1.Filled) && ((v17.1.Phase == v18.1.Phase) && ((v17.1.NewQty == v18.1.NewQty) && ((v17.1.NewPrice == v18.1.NewPrice) && ((v17.1.Version == v18.1.Version) && ((v17.1.Asked == v18.1.Asked) && true)))))))))))))))) (E_p (by kernel_rfl)) rfl rfl ?_
      refine G_op [0] (v := (bb ((!((v17.1.Id == v18.1.Id) && ((v17.1.Account == v18.1.Account) && ((v17.1.Symbol == v18.1.Symbol) && ((v17.1.Side == v18.1.Side) && ((v17.1.Qty == v18.1.Qty) && ((v17.1.Price == v18.1.Price) && ((v17.1.Filled == v18.1.Filled) && ((v17.1.Phase == v18.1.Phase) && ((v17.1.NewQty == v18.1.NewQty) && ((v17.1.NewPrice == v18.1.NewPrice) && ((v17.1.Version == v18.1.Version) && ((v17.1.Asked == v18.1.Asked) && true)))))))))))))))) (E_p (by kernel_rfl)) rfl rfl ?_
      refine G_pure (l := []) (st := ⟨⟨139, [(95, (bb (((!((v17.1.Id == v18.1.Id) && ((v17.1.Account == v18.1.Account) && ((v17.1.Symbol == v18.1.Symbol) && ((v17.1.Side == v18.1.Side) && ((v17.1.Qty == v18.1.Qty) && ((v17.1.Price == v18.1.Price) && ((v17.1.Filled == v18.1.Filled) && ((v17.1.Phase == v18.1.Phase) && ((v17.1.NewQty == v18.1.NewQty) && ((v17.1.NewPrice == v18.1.NewPrice) && ((v17.1.Version == v18.1.Version) && ((v17.1.Asked == v18.1.Asked) && true))))))))))))) || (v17.2 != v18.2))))), (15, (ii v18.2)), (12, (ii v17.2)), (13, (.box [1005] 0)), (11, (.box [1004] 0)), (10, (bb false)), (5, (.box [1001] 0))]⟩, mkH [([1001], (.box (lOrderT p_o))), ([1004], (.box (lOrderT v17.1))), ([1005], (.box (lOrderT v18.1)))]⟩) ?_ (fun r21 => ?_)
      ·refine G_nil ?_
       refine G_then ?_
       refine G_cond (t := ((!((v17.1.Id == v18.1.Id) && ((v17.1.Account == v18.1.Account) && ((v17.1.Symbol == v18.1.Symbol) && ((v17.1.Side == v18.1.Side) && ((v17.1.Qty == v18.1.Qty) && ((v17.1.Price == v18.1.Price) && ((v17.1.Filled == v18.1.Filled) && ((v17.1.Phase == v18.1.Phase) && ((v17.1.NewQty == v18.1.NewQty) && ((v17.1.NewPrice == v18.1.NewPrice) && ((v17.1.Version == v18.1.Version) && ((v17.1.Asked == v18.1.Asked) && true))))))))))))) || (v17.2 != v18.2))) (by kernel_rfl) (fun _ => ?_) (fun _ => ?_)
       ·refine G_seq ?_
        refine G_region ?_
        refine G_op [0] (v := (bb false)) (E_p (by kernel_rfl)) rfl rfl ?_
        refine G_nil ?_
        refine G_then ?_
        refine G_ret ?_
        refine G_thenR ?_
        refine G_retR ?_
        refine q_some fun hA => ?_
        show outV _ _ = some _
        kernel_rfl
       ·refine G_skip ?_
        refine G_then ?_
        refine G_seq ?_
        refine G_region ?_
        refine G_op [0] (v := (.agg (lOrderT p_o))) (E_load (by kernel_rfl)) rfl rfl ?_
        refine q_bind fun v22 hv22 => ?_
        refine G_op [0] (v := (.val (.tup [(.agg [(.int .i64 v22.1.Id), (.int .i64 v22.1.Account), (.int .i64 v22.1.Symbol), (.int .i64 v22.1.Side), (.int .i64 v22.1.Qty), (.int .i64 v22.1.Price), (.int .i64 v22.1.Filled), (.int .i64 v22.1.Phase), (.int .i64 v22.1.NewQty), (.int .i64 v22.1.NewPrice), (.int .i64 v22.1.Version), (.bool v22.1.Asked)]), (.int .i64 v22.2)]))) (E_call (ds := [.agg (e_OrderT p_o)]) (r := .tup [.agg (e_OrderT v22.1), .int .i64 v22.2]) hc47 (by kernel_rfl) ((hs47 p_o _ (by kernel_rfl)).trans (congrArg _ hv22))) rfl rfl ?_
        refine G_op [0] (v := (.val (.tup [(.agg [(.int .i64 v22.1.Id), (.int .i64 v22.1.Account), (.int .i64 v22.1.Symbol), (.int .i64 v22.1.Side), (.int .i64 v22.1.Qty), (.int .i64 v22.1.Price), (.int .i64 v22.1.Filled), (.int .i64 v22.1.Phase), (.int .i64 v22.1.NewQty), (.int .i64 v22.1.NewPrice), (.int .i64 v22.1.Version), (.bool v22.1.Asked)]), (.int .i64 v22.2)]))) (E_p (by kernel_rfl)) rfl rfl ?_
        refine G_op [0] (v := (.val (.agg [(.int .i64 v22.1.Id), (.int .i64 v22.1.Account), (.int .i64 v22.1.Symbol), (.int .i64 v22.1.Side), (.int .i64 v22.1.Qty), (.int .i64 v22.1.Price), (.int .i64 v22.1.Filled), (.int .i64 v22.1.Phase), (.int .i64 v22.1.NewQty), (.int .i64 v22.1.NewPrice), (.int .i64 v22.1.Version), (.bool v22.1.Asked)]))) (E_p (by kernel_rfl)) rfl rfl ?_
        refine G_op [0] (v := (ii v22.2)) (E_p (by kernel_rfl)) rfl rfl ?_
        refine G_op0 [0] (v := (.val (.tup []))) (E_store (b := [1004]) (o := 0) (cs := (lOrderT v22.1)) (cells := (lOrderT v17.1)) (cells' := (lOrderT v22.1)) (h' := [([1001], (.box (lOrderT p_o))), ([1004], (.box (lOrderT v22.1))), ([1005], (.box (lOrderT v18.1)))]) (by kernel_rfl) (by kernel_rfl) (by kernel_rfl) rfl (by kernel_rfl) (by kernel_rfl) (by kernel_rfl) (by kernel_rfl)) rfl ?_
        refine G_op [0] (v := (ii v22.2)) (E_p (by kernel_rfl)) rfl rfl ?_
        refine G_nil ?_
        refine G_then ?_
        refine G_seq ?_
        refine G_region ?_
        refine G_op [0] (v := (.agg (lOrderT p_o))) (E_load (by kernel_rfl)) rfl rfl ?_
        refine q_bind fun v23 hv23 => ?_
        refine G_op [0] (v := (.val (.tup [(.agg [(.int .i64 v23.1.Id), (.int .i64 v23.1.Account), (.int .i64 v23.1.Symbol), (.int .i64 v23.1.Side), (.int .i64 v23.1.Qty), (.int .i64 v23.1.Price), (.int .i64 v23.1.Filled), (.int .i64 v23.1.Phase), (.int .i64 v23.1.NewQty), (.int .i64 v23.1.NewPrice), (.int .i64 v23.1.Version), (.bool v23.1.Asked)]), (.int .i64 v23.2)]))) (E_call (ds := [.agg (e_OrderT p_o)]) (r := .tup [.agg (e_OrderT v23.1), .int .i64 v23.2]) hc48 (by kernel_rfl) ((hs48 p_o _ (by kernel_rfl)).trans (congrArg _ hv23))) rfl rfl ?_
        refine G_op [0] (v := (.val (.tup [(.agg [(.int .i64 v23.1.Id), (.int .i64 v23.1.Account), (.int .i64 v23.1.Symbol), (.int .i64 v23.1.Side), (.int .i64 v23.1.Qty), (.int .i64 v23.1.Price), (.int .i64 v23.1.Filled), (.int .i64 v23.1.Phase), (.int .i64 v23.1.NewQty), (.int .i64 v23.1.NewPrice), (.int .i64 v23.1.Version), (.bool v23.1.Asked)]), (.int .i64 v23.2)]))) (E_p (by kernel_rfl)) rfl rfl ?_
        refine G_op [0] (v := (.val (.agg [(.int .i64 v23.1.Id), (.int .i64 v23.1.Account), (.int .i64 v23.1.Symbol), (.int .i64 v23.1.Side), (.int .i64 v23.1.Qty), (.int .i64 v23.1.Price), (.int .i64 v23.1.Filled), (.int .i64 v23.1.Phase), (.int .i64 v23.1.NewQty), (.int .i64 v23.1.NewPrice), (.int .i64 v23.1.Version), (.bool v23.1.Asked)]))) (E_p (by kernel_rfl)) rfl rfl ?_
        refine G_op [0] (v := (ii v23.2)) (E_p (by kernel_rfl)) rfl rfl ?_
        refine G_op0 [0] (v := (.val (.tup []))) (E_store (b := [1005]) (o := 0) (cs := (lOrderT v23.1)) (cells := (lOrderT v18.1)) (cells' := (lOrderT v23.1)) (h' := [([1001], (.box (lOrderT p_o))), ([1004], (.box (lOrderT v22.1))), ([1005], (.box (lOrderT v23.1)))]) (by kernel_rfl) (by kernel_rfl) (by kernel_rfl) rfl (by kernel_rfl) (by kernel_rfl) (by kernel_rfl) (by kernel_rfl)) rfl ?_
        refine G_op [0] (v := (ii v23.2)) (E_p (by kernel_rfl)) rfl rfl ?_
        refine G_nil ?_
        refine G_then ?_
        refine G_subW (s0 := ⟨⟨139, [(15, (ii v23.2)), (12, (ii v22.2)), (13, (.box [1005] 0)), (11, (.box [1004] 0)), (10, (bb false)), (5, (.box [1001] 0))]⟩, mkH [([1001], (.box (lOrderT p_o))), ([1004], (.box (lOrderT v22.1))), ([1005], (.box (lOrderT v23.1)))]⟩) (by exact Sub_env ⟨.refl _, .refl _, .refl _, .refl _, .refl _, .refl _, trivial⟩) ?_
        refine G_seq ?_
        refine G_seq ?_
        refine G_region ?_
        refine G_op [0] (v := (.agg (lOrderT v22.1))) (E_load (by kernel_rfl)) rfl rfl ?_
        refine G_op [0] (v := (.agg (lOrderT v23.1))) (E_load (by kernel_rfl)) rfl rfl ?_
        refine G_op [0] (v := (bb ((!((v22.1.Id == v23.1.Id) && ((v22.1.Account == v23.1.Account) && ((v22.1.Symbol == v23.1.Symbol) && ((v22.1.Side == v23.1.Side) && ((v22.1.Qty == v23.1.Qty) && ((v22.1.Price == v23.1.Price) && ((v22.1.Filled == v23.1.Filled) && ((v22.1.Phase == v23.1.Phase) && ((v22.1.NewQty == v23.1.NewQty) && ((v22.1.NewPrice == v23.1.NewPrice) && ((v22.1.Version == v23.1.Version) && ((v22.1.Asked == v23.1.Asked) && true)))))))))))))))) (E_p (by kernel_rfl)) rfl rfl ?_
        refine G_op [0] (v := (bb ((!((v22.1.Id == v23.1.Id) && ((v22.1.Account == v23.1.Account) && ((v22.1.Symbol == v23.1.Symbol) && ((v22.1.Side == v23.1.Side) && ((v22.1.Qty == v23.1.Qty) && ((v22.1.Price == v23.1.Price) && ((v22.1.Filled == v23.1.Filled) && ((v22.1.Phase == v23.1.Phase) && ((v22.1.NewQty == v23.1.NewQty) && ((v22.1.NewPrice == v23.1.NewPrice) && ((v22.1.Version == v23.1.Version) && ((v22.1.Asked == v23.1.Asked) && true)))))))))))))))) (E_p (by kernel_rfl)) rfl rfl ?_
        refine G_pure (l := []) (st := ⟨⟨139, [(113, (bb (((!((v22.1.Id == v23.1.Id) && ((v22.1.Account == v23.1.Account) && ((v22.1.Symbol == v23.1.Symbol) && ((v22.1.Side == v23.1.Side) && ((v22.1.Qty == v23.1.Qty) && ((v22.1.Price == v23.1.Price) && ((v22.1.Filled == v23.1.Filled) && ((v22.1.Phase == v23.1.Phase) && ((v22.1.NewQty == v23.1.NewQty) && ((v22.1.NewPrice == v23.1.NewPrice) && ((v22.1.Version == v23.1.Version) && ((v22.1.Asked == v23.1.Asked) && true))))))))))))) || (v22.2 != v23.2))))), (15, (ii v23.2)), (12, (ii v22.2)), (10, (bb false)), (5, (.box [1001] 0))]⟩, mkH [([1001], (.box (lOrderT p_o)))]⟩) ?_ (fun r26 => ?_)
        ·refine G_nil ?_
         refine G_then ?_
         refine G_cond (t := ((!((v22.1.Id == v23.1.Id) && ((v22.1.Account == v23.1.Account) && ((v22.1.Symbol == v23.1.Symbol) && ((v22.1.Side == v23.1.Side) && ((v22.1.Qty == v23.1.Qty) && ((v22.1.Price == v23.1.Price) && ((v22.1.Filled == v23.1.Filled) && ((v22.1.Phase == v23.1.Phase) && ((v22.1.NewQty == v23.1.NewQty) && ((v22.1.NewPrice == v23.1.NewPrice) && ((v22.1.Version == v23.1.Version) && ((v22.1.Asked == v23.1.Asked) && true))))))))))))) || (v22.2 != v23.2))) (by kernel_rfl) (fun _ => ?_) (fun _ => ?_)
         ·refine G_seq ?_
          refine G_region ?_
          refine G_op [0] (v := (bb false)) (E_p (by kernel_rfl)) rfl rfl ?_
          refine G_nil ?_
          refine G_then ?_
          refine G_ret ?_
          refine G_thenR ?_
          refine G_retR ?_
          refine q_some fun hA => ?_
          show outV _ _ = some _
          kernel_rfl
         ·refine G_skip ?_
          refine G_then ?_
          refine G_seq ?_
          refine G_region ?_
          refine G_op [0] (v := (.agg (lOrderT p_o))) (E_load (by kernel_rfl)) rfl rfl ?_
          refine q_bind fun v27 hv27 => ?_
          refine G_op [0] (v := (.val (.tup [(.int .i64 v27.1), (.int .i64 v27.2)]))) (E_call (ds := [.agg (e_OrderT p_o)]) (r := .tup [.int .i64 v27.1, .int .i64 v27.2]) hc49 (by kernel_rfl) ((hs49 p_o _ (by kernel_rfl)).trans (congrArg _ hv27))) rfl rfl ?_
          refine G_op [0] (v := (.val (.tup [(.int .i64 v27.1), (.int .i64 v27.2)]))) (E_p (by kernel_rfl)) rfl rfl ?_
          refine G_op [0] (v := (ii v27.1)) (E_p (by kernel_rfl)) rfl rfl ?_
          refine G_op [0] (v := (ii v27.2)) (E_p (by kernel_rfl)) rfl rfl ?_
          refine G_op [0] (v := (ii v27.1)) (E_p (by kernel_rfl)) rfl rfl ?_
          refine G_op [0] (v := (ii v27.2)) (E_p (by kernel_rfl)) rfl rfl ?_
          refine G_nil ?_
          refine G_then ?_
          refine G_seq ?_
          refine G_region ?_
          refine G_op [0] (v := (.agg (lOrderT p_o))) (E_load (by kernel_rfl)) rfl rfl ?_
          refine q_bind fun v28 hv28 => ?_
          refine G_op [0] (v := (.val (.tup [(.int .i64 v28.1), (.int .i64 v28.2)]))) (E_call (ds := [.agg (e_OrderT p_o)]) (r := .tup [.int .i64 v28.1, .int .i64 v28.2]) hc50 (by kernel_rfl) ((hs50 p_o _ (by kernel_rfl)).trans (congrArg _ hv28))) rfl rfl ?_
          refine G_op [0] (v := (.val (.tup [(.int .i64 v28.1), (.int .i64 v28.2)]))) (E_p (by kernel_rfl)) rfl rfl ?_
          refine G_op [0] (v := (ii v28.1)) (E_p (by kernel_rfl)) rfl rfl ?_
          refine G_op [0] (v := (ii v28.2)) (E_p (by kernel_rfl)) rfl rfl ?_
          refine G_op [0] (v := (ii v28.1)) (E_p (by kernel_rfl)) rfl rfl ?_
          refine G_op [0] (v := (ii v28.2)) (E_p (by kernel_rfl)) rfl rfl ?_
          refine G_nil ?_
          refine G_then ?_
          refine G_subW (s0 := ⟨⟨139, [(15, (ii v28.2)), (17, (ii v28.1)), (12, (ii v27.2)), (16, (ii v27.1)), (10, (bb false)), (5, (.box [1001] 0))]⟩, mkH [([1001], (.box (lOrderT p_o)))]⟩) (by exact Sub_env ⟨.refl _, .refl _, .refl _, .refl _, .refl _, .refl _, trivial⟩) ?_
          refine G_seq ?_
          refine G_join (st := fun j29 => ⟨⟨139, [(10, (bb j29))]⟩, mkH []⟩) (fun j29 => ?_) (fun r30 hr30 => ?_)
          ·refine G_then ?_
           refine G_ret ?_
           refine G_retR ?_
           refine q_some fun hA => ?_
           show outV _ _ = some _
           kernel_rfl
          ·refine G_draw ?_
           refine X_op (w := (ii v27.1)) (v := (ii v27.1)) (E_p (by kernel_rfl)) rfl rfl rfl ?_
           refine X_op (w := (ii v28.1)) (v := (ii v28.1)) (E_p (by kernel_rfl)) rfl rfl rfl ?_
           refine X_op (w := (bb ((v27.1 == v28.1)))) (v := (bb ((v27.1 == v28.1)))) (E_p (by kernel_rfl)) rfl rfl rfl ?_
           refine X_op (w := (bb ((v27.1 == v28.1)))) (v := (bb ((v27.1 == v28.1)))) (E_p (by kernel_rfl)) rfl rfl rfl ?_
           refine q_bif (fun h31 => ?_) (fun h31 => ?_)
           ·refine X_lit (t := 127) (v := true) rfl h31 ?_
            refine X_op (w := (.may true (ii v27.2))) (v := (ii v27.2)) (E_p (by kernel_rfl)) rfl rfl rfl ?_
            refine X_op (w := (.may true (ii v28.2))) (v := (ii v28.2)) (E_p (by kernel_rfl)) rfl rfl rfl ?_
            refine X_op (w := (.may true (bb ((v27.2 == v28.2))))) (v := (bb ((v27.2 == v28.2)))) (E_p (by kernel_rfl)) rfl rfl rfl ?_
            refine X_op (w := (bb ((v27.2 == v28.2)))) (v := (bb ((v27.2 == v28.2)))) (E_pickT (by kernel_rfl) (by kernel_rfl)) rfl rfl rfl ?_
            refine X_op (w := (bb ((v27.2 == v28.2)))) (v := (bb ((v27.2 == v28.2)))) (E_p (by kernel_rfl)) rfl rfl rfl ?_
            refine q_bif (fun h32 => ?_) (fun h32 => ?_)
            ·refine X_lit (t := 132) (v := true) rfl h32 ?_
             refine X_op (w := (.may true (.agg (lOrderT p_o)))) (v := (.agg (lOrderT p_o))) (E_load (by kernel_rfl)) rfl rfl rfl ?_
             refine q_bind fun v33 hv33 => ?_
             refine X_op (w := (ii v33)) (v := (ii v33)) (E_callX (ds := [.agg (e_OrderT p_o)]) (ids := []) (r := .int .i64 v33) hc37 (by kernel_rfl) ((hs37 p_o _ (by kernel_rfl)).trans (congrArg _ hv33)) (by kernel_rfl)) rfl rfl rfl ?_
             refine X_op (w := (.may true (.agg (lOrderT p_o)))) (v := (.agg (lOrderT p_o))) (E_load (by kernel_rfl)) rfl rfl rfl ?_
             refine q_bind fun v34 hv34 => ?_
             refine X_op (w := (ii v34)) (v := (ii v34)) (E_callX (ds := [.agg (e_OrderT p_o)]) (ids := []) (r := .int .i64 v34) hc51 (by kernel_rfl) ((hs51 p_o _ (by kernel_rfl)).trans (congrArg _ hv34)) (by kernel_rfl)) rfl rfl rfl ?_
             refine X_op (w := (.may true (bb ((v33 == v34))))) (v := (bb ((v33 == v34)))) (E_p (by kernel_rfl)) rfl rfl rfl ?_
             refine X_op (w := (bb ((v33 == v34)))) (v := (bb ((v33 == v34)))) (E_pickT (by kernel_rfl) (by kernel_rfl)) rfl rfl rfl ?_
             refine X_op (w := (bb ((v33 == v34)))) (v := (bb ((v33 == v34)))) (E_p (by kernel_rfl)) rfl rfl rfl ?_
             refine X_nil (m := [(10, (bb ((v33 == v34))))]) (by exact ⟨rfl, trivial⟩) ?_
             exact q_some fun h => (QN_then : QN _ _) _ _ (by exact Sub_keep ⟨.refl _, trivial⟩ trivial (by kernel_rfl) (by kernel_rfl)) h
            ·refine X_lit (t := 132) (v := false) rfl h32 ?_
             refine X_off (v := (.agg (lOrderT p_o))) (by rfl) (by rfl) (E_load (by kernel_rfl)) rfl rfl ?_
             refine X_offC (by rfl) rfl rfl ?_
             refine X_off (v := (.agg (lOrderT p_o))) (by rfl) (by rfl) (E_load (by kernel_rfl)) rfl rfl ?_
             refine X_offC (by rfl) rfl rfl ?_
             refine X_offN (by rfl) (by rfl) (by kernel_rfl) rfl rfl ?_
             refine X_op (w := (bb false)) (v := (bb false)) (E_pickF (by kernel_rfl) (by kernel_rfl)) rfl rfl rfl ?_
             refine X_op (w := (bb false)) (v := (bb false)) (E_p (by kernel_rfl)) rfl rfl rfl ?_
             refine X_nil (m := [(10, (bb false))]) (by exact ⟨rfl, trivial⟩) ?_
             exact q_some fun h => (QN_then : QN _ _) _ _ (by exact Sub_keep ⟨.refl _, trivial⟩ trivial (by kernel_rfl) (by kernel_rfl)) h
           ·refine X_lit (t := 127) (v := false) rfl h31 ?_
            refine X_off (v := (ii v27.2)) (by rfl) (by rfl) (E_p (by kernel_rfl)) rfl rfl ?_
            refine X_off (v := (ii v28.2)) (by rfl) (by rfl) (E_p (by kernel_rfl)) rfl rfl ?_
            refine X_off (v := (bb ((v27.2 == v28.2)))) (by rfl) (by rfl) (E_p (by kernel_rfl)) rfl rfl ?_
            refine X_op (w := (bb false)) (v := (bb false)) (E_pickF (by kernel_rfl) (by kernel_rfl)) rfl rfl rfl ?_
            refine X_op (w := (bb false)) (v := (bb false)) (E_p (by kernel_rfl)) rfl rfl rfl ?_
            refine X_off (v := (.agg (lOrderT p_o))) (by rfl) (by rfl) (E_load (by kernel_rfl)) rfl rfl ?_
            refine X_offC (by rfl) rfl rfl ?_
            refine X_off (v := (.agg (lOrderT p_o))) (by rfl) (by rfl) (E_load (by kernel_rfl)) rfl rfl ?_
            refine X_offC (by rfl) rfl rfl ?_
            refine X_offN (by rfl) (by rfl) (by kernel_rfl) rfl rfl ?_
            refine X_op (w := (bb false)) (v := (bb false)) (E_pickF (by kernel_rfl) (by kernel_rfl)) rfl rfl rfl ?_
            refine X_op (w := (bb false)) (v := (bb false)) (E_p (by kernel_rfl)) rfl rfl rfl ?_
            refine X_nil (m := [(10, (bb false))]) (by exact ⟨rfl, trivial⟩) ?_
            exact q_some fun h => (QN_then : QN _ _) _ _ (by exact Sub_keep ⟨.refl _, trivial⟩ trivial (by kernel_rfl) (by kernel_rfl)) h
        ·refine q_two (!((v22.1.Id == v23.1.Id) && ((v22.1.Account == v23.1.Account) && ((v22.1.Symbol == v23.1.Symbol) && ((v22.1.Side == v23.1.Side) && ((v22.1.Qty == v23.1.Qty) && ((v22.1.Price == v23.1.Price) && ((v22.1.Filled == v23.1.Filled) && ((v22.1.Phase == v23.1.Phase) && ((v22.1.NewQty == v23.1.NewQty) && ((v22.1.NewPrice == v23.1.NewPrice) && ((v22.1.Version == v23.1.Version) && ((v22.1.Asked == v23.1.Asked) && true))))))))))))) (fun h24 => ?_) (fun h24 => ?_)
         ·refine G_subR (Sub_lit (t := 109) (v := true) rfl h24) ?_
          refine G_off rfl rfl ?_
          refine G_off rfl rfl ?_
          refine G_off rfl rfl ?_
          refine G_op [0] (v := (bb true)) (E_p (by kernel_rfl)) rfl rfl ?_
          exact q_some fun h => RP_sub (by exact Sub_keep ⟨(Wk_or1 h24), .refl _, .refl _, .refl _, .refl _, trivial⟩ ⟨⟨_, (by kernel_rfl), .refl _⟩, trivial⟩ (by kernel_rfl) (by kernel_rfl)) h
         ·refine G_subR (Sub_lit (t := 109) (v := false) rfl h24) ?_
          refine G_op [0] (v := (ii v22.2)) (E_p (by kernel_rfl)) rfl rfl ?_
          refine G_op [0] (v := (ii v23.2)) (E_p (by kernel_rfl)) rfl rfl ?_
          refine G_op [0] (v := (bb ((v22.2 != v23.2)))) (E_p (by kernel_rfl)) rfl rfl ?_
          refine G_op [0] (v := (bb ((v22.2 != v23.2)))) (E_p (by kernel_rfl)) rfl rfl ?_
          exact q_some fun h => RP_sub (by exact Sub_keep ⟨(Wk_or0 h24), .refl _, .refl _, .refl _, .refl _, trivial⟩ ⟨⟨_, (by kernel_rfl), .refl _⟩, trivial⟩ (by kernel_rfl) (by kernel_rfl)) h
      ·refine q_two (!((v17.1.Id == v18.1.Id) && ((v17.1.Account == v18.1.Account) && ((v17.1.Symbol == v18.1.Symbol) && ((v17.1.Side == v18.1.Side) && ((v17.1.Qty == v18.1.Qty) && ((v17.1.Price == v18.1.Price) && ((v17.1.Filled == v18.1.Filled) && ((v17.1.Phase == v18.1.Phase) && ((v17.1.NewQty == v18.1.NewQty) && ((v17.1.NewPrice == v18.1.NewPrice) && ((v17.1.Version == v18.1.Version) && ((v17.1.Asked == v18.1.Asked) && true))))))))))))) (fun h19 => ?_) (fun h19 => ?_)
       ·refine G_subR (Sub_lit (t := 91) (v := true) rfl h19) ?_
        refine G_off rfl rfl ?_
        refine G_off rfl rfl ?_
        refine G_off rfl rfl ?_
        refine G_op [0] (v := (bb true)) (E_p (by kernel_rfl)) rfl rfl ?_
        exact q_some fun h => RP_sub (by exact Sub_env ⟨(Wk_or1 h19), .refl _, .refl _, .refl _, .refl _, .refl _, .refl _, trivial⟩) h
       ·refine G_subR (Sub_lit (t := 91) (v := false) rfl h19) ?_
        refine G_op [0] (v := (ii v17.2)) (E_p (by kernel_rfl)) rfl rfl ?_
        refine G_op [0] (v := (ii v18.2)) (E_p (by kernel_rfl)) rfl rfl ?_
        refine G_op [0] (v := (bb ((v17.2 != v18.2)))) (E_p (by kernel_rfl)) rfl rfl ?_
        refine G_op [0] (v := (bb ((v17.2 != v18.2)))) (E_p (by kernel_rfl)) rfl rfl ?_
        exact q_some fun h => RP_sub (by exact Sub_env ⟨(Wk_or0 h19), .refl _, .refl _, .refl _, .refl _, .refl _, .refl _, trivial⟩) h
    ·refine q_two (!((v12.1.Id == v13.1.Id) && ((v12.1.Account == v13.1.Account) && ((v12.1.Symbol == v13.1.Symbol) && ((v12.1.Side == v13.1.Side) && ((v12.1.Qty == v13.1.Qty) && ((v12.1.Price == v13.1.Price) && ((v12.1.Filled == v13.1.Filled) && ((v12.1.Phase == v13.1.Phase) && ((v12.1.NewQty == v13.1.NewQty) && ((v12.1.NewPrice == v13.1.NewPrice) && ((v12.1.Version == v13.1.Version) && ((v12.1.Asked == v13.1.Asked) && true))))))))))))) (fun h14 => ?_) (fun h14 => ?_)
     ·refine G_subR (Sub_lit (t := 69) (v := true) rfl h14) ?_
      refine G_off rfl rfl ?_
      refine G_off rfl rfl ?_
      refine G_off rfl rfl ?_
      refine G_op [0] (v := (bb true)) (E_p (by kernel_rfl)) rfl rfl ?_
      exact q_some fun h => RP_sub (by exact Sub_env ⟨(Wk_or1 h14), .refl _, .refl _, .refl _, .refl _, .refl _, .refl _, .refl _, .refl _, trivial⟩) h
     ·refine G_subR (Sub_lit (t := 69) (v := false) rfl h14) ?_
      refine G_op [0] (v := (ii v12.2)) (E_p (by kernel_rfl)) rfl rfl ?_
      refine G_op [0] (v := (ii v13.2)) (E_p (by kernel_rfl)) rfl rfl ?_
      refine G_op [0] (v := (bb ((v12.2 != v13.2)))) (E_p (by kernel_rfl)) rfl rfl ?_
      refine G_op [0] (v := (bb ((v12.2 != v13.2)))) (E_p (by kernel_rfl)) rfl rfl ?_
      exact q_some fun h => RP_sub (by exact Sub_env ⟨(Wk_or0 h14), .refl _, .refl _, .refl _, .refl _, .refl _, .refl _, .refl _, .refl _, trivial⟩) h
  ·refine G_draw ?_
   refine X_op (w := (.agg (lOrderT p_o))) (v := (.agg (lOrderT p_o))) (E_load (by kernel_rfl)) rfl rfl rfl ?_
   refine q_bind fun v6 hv6 => ?_
   refine X_op (w := (bb v6)) (v := (bb v6)) (E_callX (ds := [.agg (e_OrderT p_o)]) (ids := []) (r := .bool v6) hc41 (by kernel_rfl) ((hs41 p_o _ (by kernel_rfl)).trans (congrArg _ hv6)) (by kernel_rfl)) rfl rfl rfl ?_
   refine X_op (w := (.agg (lOrderT p_o))) (v := (.agg (lOrderT p_o))) (E_load (by kernel_rfl)) rfl rfl rfl ?_
   refine q_bind fun v7 hv7 => ?_
   refine X_op (w := (bb v7)) (v := (bb v7)) (E_callX (ds := [.agg (e_OrderT p_o)]) (ids := []) (r := .bool v7) hc42 (by kernel_rfl) ((hs42 p_o _ (by kernel_rfl)).trans (congrArg _ hv7)) (by kernel_rfl)) rfl rfl rfl ?_
   refine X_op (w := (bb ((v6 != v7)))) (v := (bb ((v6 != v7)))) (E_p (by kernel_rfl)) rfl rfl rfl ?_
   refine X_op (w := (bb ((v6 != v7)))) (v := (bb ((v6 != v7)))) (E_p (by kernel_rfl)) rfl rfl rfl ?_
   refine q_bif (fun h8 => ?_) (fun h8 => ?_)
   ·refine X_lit (t := 35) (v := true) rfl h8 ?_
    refine X_off (v := (.agg (lOrderT v2.1))) (by rfl) (by rfl) (E_load (by kernel_rfl)) rfl rfl ?_
    refine X_off (v := (.agg (lOrderT v3.1))) (by rfl) (by rfl) (E_load (by kernel_rfl)) rfl rfl ?_
    refine X_off (v := (bb ((!((v2.1.Id == v3.1.Id) && ((v2.1.Account == v3.1.Account) && ((v2.1.Symbol == v3.1.Symbol) && ((v2.1.Side == v3.1.Side) && ((v2.1.Qty == v3.1.Qty) && ((v2.1.Price == v3.1.Price) && ((v2.1.Filled == v3.1.Filled) && ((v2.1.Phase == v3.1.Phase) && ((v2.1.NewQty == v3.1.NewQty) && ((v2.1.NewPrice == v3.1.NewPrice) && ((v2.1.Version == v3.1.Version) && ((v2.1.Asked == v3.1.Asked) && true)))))))))))))))) (by rfl) (by rfl) (E_p (by kernel_rfl)) rfl rfl ?_
    refine X_op (w := (bb true)) (v := (bb true)) (E_pickT (by kernel_rfl) (by kernel_rfl)) rfl rfl rfl ?_
    refine X_op (w := (bb true)) (v := (bb true)) (E_p (by kernel_rfl)) rfl rfl rfl ?_
    refine X_off (v := (ii v2.2)) (by rfl) (by rfl) (E_p (by kernel_rfl)) rfl rfl ?_
    refine X_off (v := (bb ((v2.2 == 0)))) (by rfl) (by rfl) (E_p (by kernel_rfl)) rfl rfl ?_
    refine X_off (v := (bb v3.2)) (by rfl) (by rfl) (E_p (by kernel_rfl)) rfl rfl ?_
    refine X_off (v := (bb (((v2.2 == 0) != v3.2)))) (by rfl) (by rfl) (E_p (by kernel_rfl)) rfl rfl ?_
    refine X_op (w := (bb true)) (v := (bb true)) (E_pickT (by kernel_rfl) (by kernel_rfl)) rfl rfl rfl ?_
    refine X_op (w := (bb true)) (v := (bb true)) (E_p (by kernel_rfl)) rfl rfl rfl ?_
    refine X_off (v := (bb v3.2)) (by rfl) (by rfl) (E_p (by kernel_rfl)) rfl rfl ?_
    refine X_off (v := (bb ((!v3.2)))) (by rfl) (by rfl) (E_p (by kernel_rfl)) rfl rfl ?_
    refine X_off (v := (bb ((!v3.2)))) (by rfl) (by rfl) (E_p (by kernel_rfl)) rfl rfl ?_
    refine X_off (v := (ii v2.2)) (by rfl) (by rfl) (E_p (by kernel_rfl)) rfl rfl ?_
    refine X_off (v := (bb ((v2.2 != 1)))) (by rfl) (by rfl) (E_p (by kernel_rfl)) rfl rfl ?_
    refine X_off (v := (bb ((bif (!v3.2) then (v2.2 != 1) else false)))) (by rfl) (by rfl) (E_p (by kernel_rfl)) rfl rfl ?_
    refine X_op (w := (bb true)) (v := (bb true)) (E_pickT (by kernel_rfl) (by kernel_rfl)) rfl rfl rfl ?_
    refine X_nil (m := [(53, (bb true)), (13, (.box [1005] 0)), (12, (ii v2.2)), (11, (.box [1004] 0)), (10, (bb false)), (7, (.box [1003] 0)), (5, (.box [1001] 0)), (3, (ii p_qty)), (4, (ii p_price))]) (by exact ⟨rfl, rfl, rfl, rfl, rfl, rfl, rfl, rfl, rfl, trivial⟩) ?_
    exact q_some fun h => (QN_then : QN _ _) _ _ (by exact Sub_keep ⟨.refl _, .refl _, .refl _, .refl _, .refl _, .refl _, .refl _, .refl _, .refl _, trivial⟩ ⟨⟨_, (by kernel_rfl), .refl _⟩, ⟨_, (by kernel_rfl), .refl _⟩, ⟨_, (by kernel_rfl), .refl _⟩, ⟨_, (by kernel_rfl), .refl _⟩, trivial⟩ (by kernel_rfl) (by kernel_rfl)) h
   ·refine X_lit (t := 35) (v := false) rfl h8 ?_
    refine X_op (w := (.may true (.agg (lOrderT v2.1)))) (v := (.agg (lOrderT v2.1))) (E_load (by kernel_rfl)) rfl rfl rfl ?_
    refine X_op (w := (.may true (.agg (lOrderT v3.1)))) (v := (.agg (lOrderT v3.1))) (E_load (by kernel_rfl)) rfl rfl rfl ?_
    refine X_op (w := (.may true (bb ((!((v2.1.Id == v3.1.Id) && ((v2.1.Account == v3.1.Account) && ((v2.1.Symbol == v3.1.Symbol) && ((v2.1.Side == v3.1.Side) && ((v2.1.Qty == v3.1.Qty) && ((v2.1.Price == v3.1.Price) && ((v2.1.Filled == v3.1.Filled) && ((v2.1.Phase == v3.1.Phase) && ((v2.1.NewQty == v3.1.NewQty) && ((v2.1.NewPrice == v3.1.NewPrice) && ((v2.1.Version == v3.1.Version) && ((v2.1.Asked == v3.1.Asked) && true))))))))))))))))) (v := (bb ((!((v2.1.Id == v3.1.Id) && ((v2.1.Account == v3.1.Account) && ((v2.1.Symbol == v3.1.Symbol) && ((v2.1.Side == v3.1.Side) && ((v2.1.Qty == v3.1.Qty) && ((v2.1.Price == v3.1.Price) && ((v2.1.Filled == v3.1.Filled) && ((v2.1.Phase == v3.1.Phase) && ((v2.1.NewQty == v3.1.NewQty) && ((v2.1.NewPrice == v3.1.NewPrice) && ((v2.1.Version == v3.1.Version) && ((v2.1.Asked == v3.1.Asked) && true)))))))))))))))) (E_p (by kernel_rfl)) rfl rfl rfl ?_
    refine X_op (w := (bb ((!((v2.1.Id == v3.1.Id) && ((v2.1.Account == v3.1.Account) && ((v2.1.Symbol == v3.1.Symbol) && ((v2.1.Side == v3.1.Side) && ((v2.1.Qty == v3.1.Qty) && ((v2.1.Price == v3.1.Price) && ((v2.1.Filled == v3.1.Filled) && ((v2.1.Phase == v3.1.Phase) && ((v2.1.NewQty == v3.1.NewQty) && ((v2.1.NewPrice == v3.1.NewPrice) && ((v2.1.Version == v3.1.Version) && ((v2.1.Asked == v3.1.Asked) && true)))))))))))))))) (v := (bb ((!((v2.1.Id == v3.1.Id) && ((v2.1.Account == v3.1.Account) && ((v2.1.Symbol == v3.1.Symbol) && ((v2.1.Side == v3.1.Side) && ((v2.1.Qty == v3.1.Qty) && ((v2.1.Price == v3.1.Price) && ((v2.1.Filled == v3.1.Filled) && ((v2.1.Phase == v3.1.Phase) && ((v2.1.NewQty == v3.1.NewQty) && ((v2.1.NewPrice == v3.1.NewPrice) && ((v2.1.Version == v3.1.Version) && ((v2.1.Asked == v3.1.Asked) && true)))))))))))))))) (E_pickF (by kernel_rfl) (by kernel_rfl)) rfl rfl rfl ?_
    refine X_op (w := (bb ((!((v2.1.Id == v3.1.Id) && ((v2.1.Account == v3.1.Account) && ((v2.1.Symbol == v3.1.Symbol) && ((v2.1.Side == v3.1.Side) && ((v2.1.Qty == v3.1.Qty) && ((v2.1.Price == v3.1.Price) && ((v2.1.Filled == v3.1.Filled) && ((v2.1.Phase == v3.1.Phase) && ((v2.1.NewQty == v3.1.NewQty) && ((v2.1.NewPrice == v3.1.NewPrice) && ((v2.1.Version == v3.1.Version) && ((v2.1.Asked == v3.1.Asked) && true)))))))))))))))) (v := (bb ((!((v2.1.Id == v3.1.Id) && ((v2.1.Account == v3.1.Account) && ((v2.1.Symbol == v3.1.Symbol) && ((v2.1.Side == v3.1.Side) && ((v2.1.Qty == v3.1.Qty) && ((v2.1.Price == v3.1.Price) && ((v2.1.Filled == v3.1.Filled) && ((v2.1.Phase == v3.1.Phase) && ((v2.1.NewQty == v3.1.NewQty) && ((v2.1.NewPrice == v3.1.NewPrice) && ((v2.1.Version == v3.1.Version) && ((v2.1.Asked == v3.1.Asked) && true)))))))))))))))) (E_p (by kernel_rfl)) rfl rfl rfl ?_
    refine q_bif (fun h9 => ?_) (fun h9 => ?_)
    ·refine X_lit (t := 40) (v := true) rfl h9 ?_
     refine X_off (v := (ii v2.2)) (by rfl) (by rfl) (E_p (by kernel_rfl)) rfl rfl ?_
     refine X_off (v := (bb ((v2.2 == 0)))) (by rfl) (by rfl) (E_p (by kernel_rfl)) rfl rfl ?_
     refine X_off (v := (bb v3.2)) (by rfl) (by rfl) (E_p (by kernel_rfl)) rfl rfl ?_
     refine X_off (v := (bb (((v2.2 == 0) != v3.2)))) (by rfl) (by rfl) (E_p (by kernel_rfl)) rfl rfl ?_
     refine X_op (w := (bb true)) (v := (bb true)) (E_pickT (by kernel_rfl) (by kernel_rfl)) rfl rfl rfl ?_
     refine X_op (w := (bb true)) (v := (bb true)) (E_p (by kernel_rfl)) rfl rfl rfl ?_
     refine X_off (v := (bb v3.2)) (by rfl) (by rfl) (E_p (by kernel_rfl)) rfl rfl ?_
     refine X_off (v := (bb ((!v3.2)))) (by rfl) (by rfl) (E_p (by kernel_rfl)) rfl rfl ?_
     refine X_off (v := (bb ((!v3.2)))) (by rfl) (by rfl) (E_p (by kernel_rfl)) rfl rfl ?_
     refine X_off (v := (ii v2.2)) (by rfl) (by rfl) (E_p (by kernel_rfl)) rfl rfl ?_
     refine X_off (v := (bb ((v2.2 != 1)))) (by rfl) (by rfl) (E_p (by kernel_rfl)) rfl rfl ?_
     refine X_off (v := (bb ((bif (!v3.2) then (v2.2 != 1) else false)))) (by rfl) (by rfl) (E_p (by kernel_rfl)) rfl rfl ?_
     refine X_op (w := (bb true)) (v := (bb true)) (E_pickT (by kernel_rfl) (by kernel_rfl)) rfl rfl rfl ?_
     refine X_nil (m := [(53, (bb true)), (13, (.box [1005] 0)), (12, (ii v2.2)), (11, (.box [1004] 0)), (10, (bb false)), (7, (.box [1003] 0)), (5, (.box [1001] 0)), (3, (ii p_qty)), (4, (ii p_price))]) (by exact ⟨rfl, rfl, rfl, rfl, rfl, rfl, rfl, rfl, rfl, trivial⟩) ?_
     exact q_some fun h => (QN_then : QN _ _) _ _ (by exact Sub_keep ⟨.refl _, .refl _, .refl _, .refl _, .refl _, .refl _, .refl _, .refl _, .refl _, trivial⟩ ⟨⟨_, (by kernel_rfl), .refl _⟩, ⟨_, (by kernel_rfl), .refl _⟩, ⟨_, (by kernel_rfl), .refl _⟩, ⟨_, (by kernel_rfl), .refl _⟩, trivial⟩ (by kernel_rfl) (by kernel_rfl)) h
    ·refine X_lit (t := 40) (v := false) rfl h9 ?_
     refine X_op (w := (.may true (ii v2.2))) (v := (ii v2.2)) (E_p (by kernel_rfl)) rfl rfl rfl ?_
     refine X_op (w := (.may true (bb ((v2.2 == 0))))) (v := (bb ((v2.2 == 0)))) (E_p (by kernel_rfl)) rfl rfl rfl ?_
     refine X_op (w := (.may true (bb v3.2))) (v := (bb v3.2)) (E_p (by kernel_rfl)) rfl rfl rfl ?_
     refine X_op (w := (.may true (bb (((v2.2 == 0) != v3.2))))) (v := (bb (((v2.2 == 0) != v3.2)))) (E_p (by kernel_rfl)) rfl rfl rfl ?_
     refine X_op (w := (bb (((v2.2 == 0) != v3.2)))) (v := (bb (((v2.2 == 0) != v3.2)))) (E_pickF (by kernel_rfl) (by kernel_rfl)) rfl rfl rfl ?_
     refine X_op (w := (bb (((v2.2 == 0) != v3.2)))) (v := (bb (((v2.2 == 0) != v3.2)))) (E_p (by kernel_rfl)) rfl rfl rfl ?_
     refine q_bif (fun h10 => ?_) (fun h10 => ?_)
     ·refine X_lit (t := 46) (v := true) rfl h10 ?_
      refine X_off (v := (bb v3.2)) (by rfl) (by rfl) (E_p (by kernel_rfl)) rfl rfl ?_
      refine X_off (v := (bb ((!v3.2)))) (by rfl) (by rfl) (E_p (by kernel_rfl)) rfl rfl ?_
      refine X_off (v := (bb ((!v3.2)))) (by rfl) (by rfl) (E_p (by kernel_rfl)) rfl rfl ?_
      refine X_off (v := (ii v2.2)) (by rfl) (by rfl) (E_p (by kernel_rfl)) rfl rfl ?_
      refine X_off (v := (bb ((v2.2 != 1)))) (by rfl) (by rfl) (E_p (by kernel_rfl)) rfl rfl ?_
      refine X_off (v := (bb ((bif (!v3.2) then (v2.2 != 1) else false)))) (by rfl) (by rfl) (E_p (by kernel_rfl)) rfl rfl ?_
      refine X_op (w := (bb true)) (v := (bb true)) (E_pickT (by kernel_rfl) (by kernel_rfl)) rfl rfl rfl ?_
      refine X_nil (m := [(53, (bb true)), (13, (.box [1005] 0)), (12, (ii v2.2)), (11, (.box [1004] 0)), (10, (bb false)), (7, (.box [1003] 0)), (5, (.box [1001] 0)), (3, (ii p_qty)), (4, (ii p_price))]) (by exact ⟨rfl, rfl, rfl, rfl, rfl, rfl, rfl, rfl, rfl, trivial⟩) ?_
      exact q_some fun h => (QN_then : QN _ _) _ _ (by exact Sub_keep ⟨.refl _, .refl _, .refl _, .refl _, .refl _, .refl _, .refl _, .refl _, .refl _, trivial⟩ ⟨⟨_, (by kernel_rfl), .refl _⟩, ⟨_, (by kernel_rfl), .refl _⟩, ⟨_, (by kernel_rfl), .refl _⟩, ⟨_, (by kernel_rfl), .refl _⟩, trivial⟩ (by kernel_rfl) (by kernel_rfl)) h
     ·refine X_lit (t := 46) (v := false) rfl h10 ?_
      refine X_op (w := (.may true (bb v3.2))) (v := (bb v3.2)) (E_p (by kernel_rfl)) rfl rfl rfl ?_
      refine X_op (w := (.may true (bb ((!v3.2))))) (v := (bb ((!v3.2)))) (E_p (by kernel_rfl)) rfl rfl rfl ?_
      refine X_op (w := (.may true (bb ((!v3.2))))) (v := (bb ((!v3.2)))) (E_p (by kernel_rfl)) rfl rfl rfl ?_
      refine q_bif (fun h11 => ?_) (fun h11 => ?_)
      ·refine X_litM (t := 49) (v := true) rfl h11 ?_
       refine X_op (w := (.may true (ii v2.2))) (v := (ii v2.2)) (E_p (by kernel_rfl)) rfl rfl rfl ?_
       refine X_op (w := (.may true (bb ((v2.2 != 1))))) (v := (bb ((v2.2 != 1)))) (E_p (by kernel_rfl)) rfl rfl rfl ?_
       refine X_op (w := (.may true (bb ((v2.2 != 1))))) (v := (bb ((v2.2 != 1)))) (E_pickT (by kernel_rfl) (by kernel_rfl)) rfl rfl rfl ?_
       refine X_op (w := (bb ((v2.2 != 1)))) (v := (bb ((v2.2 != 1)))) (E_pickF (by kernel_rfl) (by kernel_rfl)) rfl rfl rfl ?_
       refine X_nil (m := [(53, (bb ((v2.2 != 1)))), (13, (.box [1005] 0)), (12, (ii v2.2)), (11, (.box [1004] 0)), (10, (bb false)), (7, (.box [1003] 0)), (5, (.box [1001] 0)), (3, (ii p_qty)), (4, (ii p_price))]) (by exact ⟨rfl, rfl, rfl, rfl, rfl, rfl, rfl, rfl, rfl, trivial⟩) ?_
       exact q_some fun h => (QN_then : QN _ _) _ _ (by exact Sub_keep ⟨.refl _, .refl _, .refl _, .refl _, .refl _, .refl _, .refl _, .refl _, .refl _, trivial⟩ ⟨⟨_, (by kernel_rfl), .refl _⟩, ⟨_, (by kernel_rfl), .refl _⟩, ⟨_, (by kernel_rfl), .refl _⟩, ⟨_, (by kernel_rfl), .refl _⟩, trivial⟩ (by kernel_rfl) (by kernel_rfl)) h
      ·refine X_litM (t := 49) (v := false) rfl h11 ?_
       refine X_off (v := (ii v2.2)) (by rfl) (by rfl) (E_p (by kernel_rfl)) rfl rfl ?_
       refine X_off (v := (bb ((v2.2 != 1)))) (by rfl) (by rfl) (E_p (by kernel_rfl)) rfl rfl ?_
       refine X_op (w := (.may true (bb false))) (v := (bb false)) (E_pickF (by kernel_rfl) (by kernel_rfl)) rfl rfl rfl ?_
       refine X_op (w := (bb false)) (v := (bb false)) (E_pickF (by kernel_rfl) (by kernel_rfl)) rfl rfl rfl ?_
       refine X_nil (m := [(53, (bb false)), (13, (.box [1005] 0)), (12, (ii v2.2)), (11, (.box [1004] 0)), (10, (bb false)), (7, (.box [1003] 0)), (5, (.box [1001] 0)), (3, (ii p_qty)), (4, (ii p_price))]) (by exact ⟨rfl, rfl, rfl, rfl, rfl, rfl, rfl, rfl, rfl, trivial⟩) ?_
       exact q_some fun h => (QN_then : QN _ _) _ _ (by exact Sub_keep ⟨.refl _, .refl _, .refl _, .refl _, .refl _, .refl _, .refl _, .refl _, .refl _, trivial⟩ ⟨⟨_, (by kernel_rfl), .refl _⟩, ⟨_, (by kernel_rfl), .refl _⟩, ⟨_, (by kernel_rfl), .refl _⟩, ⟨_, (by kernel_rfl), .refl _⟩, trivial⟩ (by kernel_rfl) (by kernel_rfl)) h
theorem s9 (x0 : OrderT) (x1 : RecT) (x2 : NoteT) (x3 : Int) (x4 : Int) (ds : List DV) (hd : List.map z1 ds = List.map z1 [.agg (e_OrderT x0), .agg (e_RecT x1), .agg (e_NoteT x2), .int .i64 x3, .int .i64 x4]) : sp9 ds = (g_snafflelaw07_OrderRight x0 x1 x2 x3 x4).map fun r => .bool r :=
 specT_at (ea := fun (a : OrderT × RecT × NoteT × Int × Int) => [.agg (e_OrderT a.1), .agg (e_RecT a.2.1), .agg (e_NoteT a.2.2.1), .int .i64 a.2.2.2.1, .int .i64 a.2.2.2.2]) (eb := fun (r : Bool) => .bool r) (g := fun (a : OrderT × RecT × NoteT × Int × Int) => g_snafflelaw07_OrderRight a.1 a.2.1 a.2.2.1 a.2.2.2.1 a.2.2.2.2) inj9 (x0, x1, x2, x3, x4) hd
end Go.AI
