import Derived.Test.YtpolaeonmmolnaaLc
namespace Go.AI
open Go.Proofs
set_option linter.unusedVariables false
set_option linter.unusedSimpArgs false
def t12_0 : List AIns := (⟨(some 31), (.p (.mv (.t 30))), none⟩ :: ⟨(some 32), (.p (.mv (.t 3))), (some (31, false))⟩ :: ⟨(some 33), (.p (.bin .gtr (.t 32) (.c (.int .i64 1000)))), (some (31, false))⟩ :: ⟨(some 34), (.p (.pick (.t 31) (.c (.bool true)) (.t 33))), none⟩ :: [])
def k12_0 : ACode := (.seq (.region (⟨(some 22), (.r (.call 38 [])), none⟩ :: ⟨(some 23), (.p (.un .not (.t 22))), none⟩ :: [])) (.cond (.t 23) (.seq (.region (⟨(some 8), (.p (.mv (.c (.bool false)))), none⟩ :: [])) .ret) .skip))
def k12_1 : ACode := (.region (⟨(some 24), (.r (.load 12 true (.t 4))), none⟩ :: ⟨(some 25), (.r (.call 41 [(.t 24)])), none⟩ :: ⟨(some 26), (.p (.un .not (.t 25))), none⟩ :: ⟨(some 27), (.p (.mv (.t 26))), none⟩ :: ⟨(some 28), (.p (.mv (.t 3))), (some (27, false))⟩ :: ⟨(some 29), (.p (.bin .lss (.t 28) (.c (.int .i64 1)))), (some (27, false))⟩ :: ⟨(some 30), (.p (.pick (.t 27) (.c (.bool true)) (.t 29))), none⟩ :: t12_0))
def k12_2 : ACode := (.seq k12_1 (.cond (.t 34) (.seq (.region (⟨(some 8), (.p (.mv (.c (.bool true)))), none⟩ :: [])) .ret) .skip))
def k12_3 : ACode := (.region (⟨(some 36), (.r (.load 12 true (.t 4))), none⟩ :: ⟨(some 37), (.p (.mv (.t 1))), none⟩ :: ⟨(some 38), (.p (.mv (.t 2))), none⟩ :: ⟨(some 39), (.r (.call 45 [(.t 36), (.t 37), (.t 38)])), none⟩ :: ⟨(some 35), (.p (.mv (.t 39))), none⟩ :: ⟨(some 40), (.p (.ext (.t 35) 0)), none⟩ :: ⟨(some 41), (.p (.ext (.t 35) 1)), none⟩ :: ⟨(some 9), (.a (.alloc [(.int .i64 0), (.int .i64 0), (.int .i64 0), (.int .i64 0), (.int .i64 0), (.int .i64 0), (.int .i64 0), (.int .i64 0), (.int .i64 0), (.int .i64 0), (.int .i64 0), (.bool false)])), none⟩ :: ⟨none, (.w (.store 12 (.t 9) (.t 40))), none⟩ :: ⟨(some 10), (.p (.mv (.t 41))), none⟩ :: []))
def k12_4 : ACode := (.region (⟨(some 44), (.r (.load 12 true (.t 9))), none⟩ :: ⟨(some 45), (.r (.load 12 true (.t 4))), none⟩ :: ⟨(some 46), (.p (.eqs [1, 1, 1, 1, 1, 1, 1, 1, 1, 1, 1, 0] false (.t 44) (.t 45))), none⟩ :: ⟨(some 8), (.p (.mv (.t 46))), none⟩ :: []))
def k12_5 : ACode := (.seq k12_4 .ret)
def k12_6 : ACode := (.cond (.t 43) k12_5 .skip)
def k12_7 : ACode := (.seq (.region (⟨(some 42), (.p (.mv (.t 10))), none⟩ :: ⟨(some 43), (.p (.bin .neq (.t 42) (.c (.int .i64 0)))), none⟩ :: [])) k12_6)
def k12_8 : ACode := (.region (⟨(some 48), (.r (.load 12 true (.t 4))), none⟩ :: ⟨(some 49), (.r (.call 49 [(.t 48)])), none⟩ :: ⟨(some 47), (.p (.mv (.t 49))), none⟩ :: ⟨(some 50), (.p (.ext (.t 47) 0)), none⟩ :: ⟨(some 51), (.p (.ext (.t 47) 1)), none⟩ :: ⟨(some 11), (.p (.mv (.t 50))), none⟩ :: ⟨(some 12), (.p (.mv (.t 51))), none⟩ :: []))
def k12_9 : ACode := (.region (⟨(some 53), (.r (.load 12 true (.t 9))), none⟩ :: ⟨(some 54), (.r (.call 49 [(.t 53)])), none⟩ :: ⟨(some 52), (.p (.mv (.t 54))), none⟩ :: ⟨(some 55), (.p (.ext (.t 52) 0)), none⟩ :: ⟨(some 56), (.p (.ext (.t 52) 1)), none⟩ :: ⟨(some 13), (.p (.mv (.t 55))), none⟩ :: ⟨(some 14), (.p (.mv (.t 56))), none⟩ :: []))
def k12_10 : ACode := (.region (⟨(some 58), (.r (.load 12 true (.t 9))), none⟩ :: ⟨(some 59), (.p (.mv (.t 1))), none⟩ :: ⟨(some 60), (.p (.mv (.t 2))), none⟩ :: ⟨(some 61), (.r (.call 45 [(.t 58), (.t 59), (.t 60)])), none⟩ :: ⟨(some 57), (.p (.mv (.t 61))), none⟩ :: ⟨(some 62), (.p (.ext (.t 57) 0)), none⟩ :: ⟨(some 63), (.p (.ext (.t 57) 1)), none⟩ :: ⟨(some 15), (.a (.alloc [(.int .i64 0), (.int .i64 0), (.int .i64 0), (.int .i64 0), (.int .i64 0), (.int .i64 0), (.int .i64 0), (.int .i64 0), (.int .i64 0), (.int .i64 0), (.int .i64 0), (.bool false)])), none⟩ :: ⟨none, (.w (.store 12 (.t 15) (.t 62))), none⟩ :: ⟨(some 16), (.p (.mv (.t 63))), none⟩ :: []))
def k12_11 : ACode := (.draw (⟨(some 64), (.r (.load 12 true (.t 9))), none⟩ :: ⟨(some 65), (.r (.call 41 [(.t 64)])), none⟩ :: ⟨(some 66), (.p (.un .not (.t 65))), none⟩ :: ⟨(some 67), (.p (.mv (.t 66))), none⟩ :: ⟨(some 68), (.r (.load 12 true (.t 9))), (some (67, false))⟩ :: ⟨(some 69), (.r (.call 37 [(.t 68)])), (some (67, false))⟩ :: ⟨(some 70), (.r (.load 12 true (.t 4))), (some (67, false))⟩ :: ⟨(some 71), (.r (.call 37 [(.t 70)])), (some (67, false))⟩ :: ⟨(some 72), (.p (.bin .lss (.t 69) (.t 71))), (some (67, false))⟩ :: ⟨(some 73), (.p (.pick (.t 67) (.c (.bool true)) (.t 72))), none⟩ :: ⟨(some 74), (.p (.mv (.t 73))), none⟩ :: ⟨(some 75), (.p (.mv (.t 12))), (some (74, false))⟩ :: ⟨(some 76), (.p (.bin .eql (.t 75) (.c (.int .i64 0)))), (some (74, false))⟩ :: ⟨(some 77), (.p (.mv (.t 76))), (some (74, false))⟩ :: ⟨(some 78), (.p (.mv (.t 14))), (some (77, true))⟩ :: ⟨(some 79), (.p (.bin .eql (.t 78) (.c (.int .i64 0)))), (some (77, true))⟩ :: ⟨(some 80), (.p (.pick (.t 77) (.t 79) (.c (.bool false)))), (some (74, false))⟩ :: ⟨(some 81), (.p (.mv (.t 80))), (some (74, false))⟩ :: ⟨(some 82), (.p (.mv (.t 13))), (some (81, true))⟩ :: ⟨(some 83), (.p (.mv (.t 11))), (some (81, true))⟩ :: ⟨(some 84), (.p (.bin .lss (.t 82) (.t 83))), (some (81, true))⟩ :: ⟨(some 85), (.p (.pick (.t 81) (.t 84) (.c (.bool false)))), (some (74, false))⟩ :: ⟨(some 86), (.p (.pick (.t 74) (.c (.bool true)) (.t 85))), none⟩ :: ⟨(some 87), (.p (.mv (.t 86))), none⟩ :: ⟨(some 88), (.p (.mv (.t 12))), (some (87, false))⟩ :: ⟨(some 89), (.p (.bin .neq (.t 88) (.c (.int .i64 0)))), (some (87, false))⟩ :: ⟨(some 90), (.p (.mv (.t 89))), (some (87, false))⟩ :: ⟨(some 91), (.p (.mv (.t 14))), (some (90, true))⟩ :: ⟨(some 92), (.p (.bin .eql (.t 91) (.c (.int .i64 0)))), (some (90, true))⟩ :: ⟨(some 93), (.p (.pick (.t 90) (.t 92) (.c (.bool false)))), (some (87, false))⟩ :: ⟨(some 94), (.p (.pick (.t 87) (.c (.bool true)) (.t 93))), none⟩ :: ⟨(some 95), (.p (.mv (.t 94))), none⟩ :: ⟨(some 96), (.p (.mv (.t 16))), (some (95, false))⟩ :: ⟨(some 97), (.p (.bin .eql (.t 96) (.c (.int .i64 0)))), (some (95, false))⟩ :: ⟨(some 98), (.p (.pick (.t 95) (.c (.bool true)) (.t 97))), none⟩ :: ⟨(some 99), (.p (.mv (.t 98))), none⟩ :: ⟨(some 100), (.p (.foff 11 (.t 4))), (some (99, false))⟩ :: ⟨(some 101), (.r (.load 1 false (.t 100))), (some (99, false))⟩ :: ⟨(some 102), (.p (.pick (.t 99) (.c (.bool true)) (.t 101))), none⟩ :: []))
def k12_12 : ACode := (.seq k12_11 (.cond (.t 102) (.seq (.region (⟨(some 8), (.p (.mv (.c (.bool false)))), none⟩ :: [])) .ret) .skip))
def k12_13 : ACode := (.region (⟨(some 104), (.r (.load 12 true (.t 9))), none⟩ :: ⟨(some 105), (.p (.mv (.t 3))), none⟩ :: ⟨(some 106), (.p (.foff 0 (.t 4))), none⟩ :: ⟨(some 107), (.r (.load 1 false (.t 106))), none⟩ :: ⟨(some 108), (.p (.build [(.int .i64 0), (.int .i64 0), (.int .i64 0), (.int .i64 0), (.int .i64 0)] [(0, (1, (.t 105))), (1, (1, (.c (.int .i64 6)))), (2, (1, (.t 107)))])), none⟩ :: ⟨(some 109), (.r (.call 43 [(.t 104), (.t 108)])), none⟩ :: ⟨(some 103), (.p (.mv (.t 109))), none⟩ :: ⟨(some 110), (.p (.ext (.t 103) 0)), none⟩ :: ⟨(some 111), (.p (.ext (.t 103) 1)), none⟩ :: ⟨(some 17), (.a (.alloc [(.int .i64 0), (.int .i64 0), (.int .i64 0), (.int .i64 0), (.int .i64 0), (.int .i64 0), (.int .i64 0), (.int .i64 0), (.int .i64 0), (.int .i64 0), (.int .i64 0), (.bool false)])), none⟩ :: ⟨none, (.w (.store 12 (.t 17) (.t 110))), none⟩ :: ⟨(some 18), (.p (.mv (.t 111))), none⟩ :: []))
def k12_14 : ACode := (.region (⟨(some 113), (.p (.foff 10 (.t 9))), none⟩ :: ⟨(some 114), (.r (.load 1 false (.t 113))), none⟩ :: ⟨(some 115), (.p (.foff 10 (.t 19))), none⟩ :: ⟨none, (.w (.store 1 (.t 115) (.t 114))), none⟩ :: []))
def k12_15 : ACode := (.region (⟨(some 116), (.p (.mv (.t 18))), none⟩ :: ⟨(some 117), (.p (.bin .neq (.t 116) (.c (.int .i64 0)))), none⟩ :: ⟨(some 118), (.p (.mv (.t 117))), none⟩ :: ⟨(some 119), (.r (.load 12 true (.t 17))), (some (118, false))⟩ :: ⟨(some 120), (.r (.load 12 true (.t 19))), (some (118, false))⟩ :: ⟨(some 121), (.p (.eqs [1, 1, 1, 1, 1, 1, 1, 1, 1, 1, 1, 0] true (.t 119) (.t 120))), (some (118, false))⟩ :: ⟨(some 122), (.p (.pick (.t 118) (.c (.bool true)) (.t 121))), none⟩ :: []))
def k12_16 : ACode := (.seq k12_15 (.cond (.t 122) (.seq (.region (⟨(some 8), (.p (.mv (.c (.bool false)))), none⟩ :: [])) .ret) .skip))
def k12_17 : ACode := (.region (⟨(some 124), (.r (.load 12 true (.t 9))), none⟩ :: ⟨(some 125), (.p (.mv (.t 3))), none⟩ :: ⟨(some 126), (.p (.foff 0 (.t 4))), none⟩ :: ⟨(some 127), (.r (.load 1 false (.t 126))), none⟩ :: ⟨(some 128), (.p (.mv (.t 1))), none⟩ :: ⟨(some 129), (.p (.mv (.t 2))), none⟩ :: ⟨(some 130), (.p (.build [(.int .i64 0), (.int .i64 0), (.int .i64 0), (.int .i64 0), (.int .i64 0)] [(0, (1, (.t 125))), (1, (1, (.c (.int .i64 5)))), (2, (1, (.t 127))), (3, (1, (.t 128))), (4, (1, (.t 129)))])), none⟩ :: ⟨(some 131), (.r (.call 43 [(.t 124), (.t 130)])), none⟩ :: ⟨(some 123), (.p (.mv (.t 131))), none⟩ :: ⟨(some 132), (.p (.ext (.t 123) 0)), none⟩ :: ⟨(some 133), (.p (.ext (.t 123) 1)), none⟩ :: ⟨(some 20), (.a (.alloc [(.int .i64 0), (.int .i64 0), (.int .i64 0), (.int .i64 0), (.int .i64 0), (.int .i64 0), (.int .i64 0), (.int .i64 0), (.int .i64 0), (.int .i64 0), (.int .i64 0), (.bool false)])), none⟩ :: ⟨none, (.w (.store 12 (.t 20) (.t 132))), none⟩ :: ⟨(some 21), (.p (.mv (.t 133))), none⟩ :: []))
def k12_18 : ACode := (.region (⟨(some 134), (.p (.mv (.t 1))), none⟩ :: ⟨(some 135), (.p (.foff 6 (.t 4))), none⟩ :: ⟨(some 136), (.r (.load 1 false (.t 135))), none⟩ :: ⟨(some 137), (.p (.bin .leq (.t 134) (.t 136))), none⟩ :: []))
def k12_19 : ACode := (.seq (.region (⟨(some 138), (.p (.mv (.t 21))), none⟩ :: ⟨(some 139), (.p (.bin .eql (.t 138) (.c (.int .i64 8)))), none⟩ :: ⟨(some 8), (.p (.mv (.t 139))), none⟩ :: [])) .ret)
def k12_20 : ACode := (.cond (.t 137) k12_19 .skip)
def k12_21 : ACode := (.seq k12_18 k12_20)
def k12_22 : ACode := (.draw (⟨(some 140), (.p (.mv (.t 21))), none⟩ :: ⟨(some 141), (.p (.bin .eql (.t 140) (.c (.int .i64 0)))), none⟩ :: ⟨(some 142), (.p (.mv (.t 141))), none⟩ :: ⟨(some 143), (.p (.foff 4 (.t 20))), (some (142, true))⟩ :: ⟨(some 144), (.r (.load 1 false (.t 143))), (some (142, true))⟩ :: ⟨(some 145), (.p (.mv (.t 1))), (some (142, true))⟩ :: ⟨(some 146), (.p (.bin .eql (.t 144) (.t 145))), (some (142, true))⟩ :: ⟨(some 147), (.p (.pick (.t 142) (.t 146) (.c (.bool false)))), none⟩ :: ⟨(some 148), (.p (.mv (.t 147))), none⟩ :: ⟨(some 149), (.p (.foff 5 (.t 20))), (some (148, true))⟩ :: ⟨(some 150), (.r (.load 1 false (.t 149))), (some (148, true))⟩ :: ⟨(some 151), (.p (.mv (.t 2))), (some (148, true))⟩ :: ⟨(some 152), (.p (.bin .eql (.t 150) (.t 151))), (some (148, true))⟩ :: ⟨(some 153), (.p (.pick (.t 148) (.t 152) (.c (.bool false)))), none⟩ :: ⟨(some 154), (.p (.mv (.t 153))), none⟩ :: ⟨(some 155), (.p (.foff 6 (.t 20))), (some (154, true))⟩ :: ⟨(some 156), (.r (.load 1 false (.t 155))), (some (154, true))⟩ :: ⟨(some 157), (.p (.foff 6 (.t 4))), (some (154, true))⟩ :: ⟨(some 158), (.r (.load 1 false (.t 157))), (some (154, true))⟩ :: ⟨(some 159), (.p (.bin .eql (.t 156) (.t 158))), (some (154, true))⟩ :: ⟨(some 160), (.p (.pick (.t 154) (.t 159) (.c (.bool false)))), none⟩ :: ⟨(some 161), (.p (.mv (.t 160))), none⟩ :: ⟨(some 162), (.r (.load 12 true (.t 20))), (some (161, true))⟩ :: ⟨(some 163), (.r (.call 37 [(.t 162)])), (some (161, true))⟩ :: ⟨(some 164), (.p (.mv (.t 1))), (some (161, true))⟩ :: ⟨(some 165), (.p (.foff 6 (.t 4))), (some (161, true))⟩ :: ⟨(some 166), (.r (.load 1 false (.t 165))), (some (161, true))⟩ :: ⟨(some 167), (.p (.bin .sub (.t 164) (.t 166))), (some (161, true))⟩ :: ⟨(some 168), (.p (.bin .eql (.t 163) (.t 167))), (some (161, true))⟩ :: ⟨(some 169), (.p (.pick (.t 161) (.t 168) (.c (.bool false)))), none⟩ :: ⟨(some 170), (.p (.mv (.t 169))), none⟩ :: ⟨(some 171), (.p (.foff 8 (.t 20))), (some (170, true))⟩ :: ⟨(some 172), (.r (.load 1 false (.t 171))), (some (170, true))⟩ :: ⟨(some 173), (.p (.bin .eql (.t 172) (.c (.int .i64 0)))), (some (170, true))⟩ :: ⟨(some 174), (.p (.pick (.t 170) (.t 173) (.c (.bool false)))), none⟩ :: ⟨(some 8), (.p (.mv (.t 174))), none⟩ :: []))
def k12_23 : ACode := (.seq k12_22 .ret)
def k12_24 : ACode := (.seq k12_21 k12_23)
def k12_25 : ACode := (.seq k12_17 k12_24)
def k12_26 : ACode := (.seq k12_16 k12_25)
def k12_27 : ACode := (.seq k12_14 k12_26)
def k12_28 : ACode := (.seq (.region (⟨(some 112), (.r (.load 12 true (.t 4))), none⟩ :: ⟨(some 19), (.a (.alloc [(.int .i64 0), (.int .i64 0), (.int .i64 0), (.int .i64 0), (.int .i64 0), (.int .i64 0), (.int .i64 0), (.int .i64 0), (.int .i64 0), (.int .i64 0), (.int .i64 0), (.bool false)])), none⟩ :: ⟨none, (.w (.store 12 (.t 19) (.t 112))), none⟩ :: [])) k12_27)
def k12_29 : ACode := (.seq k12_13 k12_28)
def k12_30 : ACode := (.seq k12_12 k12_29)
def k12_31 : ACode := (.seq k12_10 k12_30)
def k12_32 : ACode := (.seq k12_9 k12_31)
def k12_33 : ACode := (.seq k12_8 k12_32)
def k12_34 : ACode := (.seq k12_7 k12_33)
def k12_35 : ACode := (.seq k12_3 k12_34)
def k12_36 : ACode := (.seq k12_2 k12_35)
def k12_37 : ACode := (.seq k12_0 k12_36)
def cd12 : ACode := (.seq (.region (⟨(some 4), (.a (.bx (.t 0))), none⟩ :: ⟨(some 8), (.p (.mv (.c (.bool false)))), none⟩ :: [])) k12_37)
def rs12 : List ARes := [(.tmp 8)]
def af12 : AFn := ⟨cd12, rs12, 175⟩
theorem c12 : compF Try.prog 12 = some af12 := by kernel_rfl
noncomputable def g_snafflelaw07_OrderAsks (p_o : OrderT) (p_qty : Int) (p_price : Int) (p_seq : Int) : Option Bool := (Option.bind (g_snafflelaw07_awake) fun v1 => (bif (!v1) then (some false) else (Option.bind (g_order_Right p_o) fun v2 => (bif (((!v2) || (decide (p_seq < 1))) || (decide (p_seq > 1000))) then (some true) else (Option.bind (g_order_Change p_o p_qty p_price) fun v9 => (bif (v9.2 != 0) then (some ((v9.1.Id == p_o.Id) && ((v9.1.Account == p_o.Account) && ((v9.1.Symbol == p_o.Symbol) && ((v9.1.Side == p_o.Side) && ((v9.1.Qty == p_o.Qty) && ((v9.1.Price == p_o.Price) && ((v9.1.Filled == p_o.Filled) && ((v9.1.Phase == p_o.Phase) && ((v9.1.NewQty == p_o.NewQty) && ((v9.1.NewPrice == p_o.NewPrice) && ((v9.1.Version == p_o.Version) && ((v9.1.Asked == p_o.Asked) && true))))))))))))) else (Option.bind (g_order_Worth p_o) fun v10 => (Option.bind (g_order_Worth v9.1) fun v11 => (Option.bind (g_order_Change v9.1 p_qty p_price) fun v12 => (Option.bind ((Option.bind (g_order_Right v9.1) fun v15 => (bif (!v15) then (some true) else (Option.bind (g_order_Open v9.1) fun v17 => (Option.bind (g_order_Open p_o) fun v18 => (bif (decide (v17 < v18)) then (some true) else (bif (v10.2 == 0) then (bif (v11.2 == 0) then (bif (decide (v11.1 < v10.1)) then (some true) else (bif (v10.2 != 0) then (bif (v11.2 == 0) then (some true) else (bif (v12.2 == 0) then (some true) else (some p_o.Asked))) else (bif (v12.2 == 0) then (some true) else (some p_o.Asked)))) else (bif (v10.2 != 0) then (bif (v11.2 == 0) then (some true) else (bif (v12.2 == 0) then (some true) else (some p_o.Asked))) else (bif (v12.2 == 0) then (some true) else (some p_o.Asked)))) else (bif (v10.2 != 0) then (bif (v11.2 == 0) then (some true) else (bif (v12.2 == 0) then (some true) else (some p_o.Asked))) else (bif (v12.2 == 0) then (some true) else (some p_o.Asked))))))))) : Option (Bool)) (fun (j13 : Bool) => (bif j13 then (some false) else (Option.bind (g_order_Take v9.1 (NoteT.mk p_seq 6 p_o.Id 0 0)) fun v35 => (bif ((v35.2 != 0) || (!((v35.1.Id == p_o.Id) && ((v35.1.Account == p_o.Account) && ((v35.1.Symbol == p_o.Symbol) && ((v35.1.Side == p_o.Side) && ((v35.1.Qty == p_o.Qty) && ((v35.1.Price == p_o.Price) && ((v35.1.Filled == p_o.Filled) && ((v35.1.Phase == p_o.Phase) && ((v35.1.NewQty == p_o.NewQty) && ((v35.1.NewPrice == p_o.NewPrice) && ((v35.1.Version == v9.1.Version) && ((v35.1.Asked == p_o.Asked) && true)))))))))))))) then (some false) else (Option.bind (g_order_Take v9.1 (NoteT.mk p_seq 5 p_o.Id p_qty p_price)) fun v39 => (bif (decide (p_qty ≤ p_o.Filled)) then (some (v39.2 == 8)) else (Option.bind ((bif (v39.2 == 0) then (bif (v39.1.Qty == p_qty) then (bif (v39.1.Price == p_price) then (bif (v39.1.Filled == p_o.Filled) then (Option.bind (g_order_Open v39.1) fun v46 => (bif (v46 == (IntKind.wrap .i64 (p_qty - p_o.Filled))) then (some (v39.1.NewQty == 0)) else (some false))) else (some false)) else (some false)) else (some false)) else (some false)) : Option (Bool)) (fun (j40 : Bool) => (some j40)))))))))))))))))))
noncomputable def sp12 : List DV → Option DV := specT (fun (a : OrderT × Int × Int × Int) => [.agg (e_OrderT a.1), .int .i64 a.2.1, .int .i64 a.2.2.1, .int .i64 a.2.2.2]) (fun (r : Bool) => .bool r) (fun (a : OrderT × Int × Int × Int) => g_snafflelaw07_OrderAsks a.1 a.2.1 a.2.2.1 a.2.2.2)
theorem inj12 : ∀ (a b : OrderT × Int × Int × Int), List.map z1 ((fun (a : OrderT × Int × Int × Int) => [.agg (e_OrderT a.1), .int .i64 a.2.1, .int .i64 a.2.2.1, .int .i64 a.2.2.2]) a) = List.map z1 ((fun (a : OrderT × Int × Int × Int) => [.agg (e_OrderT a.1), .int .i64 a.2.1, .int .i64 a.2.2.1, .int .i64 a.2.2.2]) b) → a = b := by
  rintro ⟨a0, a1, a2, a3⟩ ⟨b0, b1, b2, b3⟩ h
  simp only [List.map_cons, List.map_nil, List.cons.injEq, and_true] at h
  obtain ⟨h0, h1, h2, h3⟩ := h
  exact (pair_eq (e_OrderT_inj (DV.agg.inj h0)) (pair_eq (DV.int.inj h1).2 (pair_eq (DV.int.inj h2).2 (DV.int.inj h3).2)))
set_option maxHeartbeats 1000000 in
theorem w12 {C : FuncId → Con} (hC : ConOk Try.prog C) {q38 : List DV → Option DV} (hc38 : C 38 = .val q38) (hs38 : ∀ (ds : List DV), List.map z1 ds = List.map z1 [] → q38 ds = (g_snafflelaw07_awake).map fun r => .bool r) {q41 : List DV → Option DV} (hc41 : C 41 = .val q41) (hs41 : ∀ (x0 : OrderT) (ds : List DV), List.map z1 ds = List.map z1 [.agg (e_OrderT x0)] → q41 ds = (g_order_Right x0).map fun r => .bool r) {q45 : List DV → Option DV} (hc45 : C 45 = .val q45) (hs45 : ∀ (x0 : OrderT) (x1 : Int) (x2 : Int) (ds : List DV), List.map z1 ds = List.map z1 [.agg (e_OrderT x0), .int .i64 x1, .int .i64 x2] → q45 ds = (g_order_Change x0 x1 x2).map fun r => .tup [.agg (e_OrderT r.1), .int .i64 r.2]) {q49 : List DV → Option DV} (hc49 : C 49 = .val q49) (hs49 : ∀ (x0 : OrderT) (ds : List DV), List.map z1 ds = List.map z1 [.agg (e_OrderT x0)] → q49 ds = (g_order_Worth x0).map fun r => .tup [.int .i64 r.1, .int .i64 r.2]) {q37 : List DV → Option DV} (hc37 : C 37 = .val q37) (hs37 : ∀ (x0 : OrderT) (ds : List DV), List.map z1 ds = List.map z1 [.agg (e_OrderT x0)] → q37 ds = (g_order_Open x0).map fun r => .int .i64 r) {q43 : List DV → Option DV} (hc43 : C 43 = .val q43) (hs43 : ∀ (x0 : OrderT) (x1 : NoteT) (ds : List DV), List.map z1 ds = List.map z1 [.agg (e_OrderT x0), .agg (e_NoteT x1)] → q43 ds = (g_order_Take x0 x1).map fun r => .tup [.agg (e_OrderT r.1), .int .i64 r.2]) : ValOk Try.prog 12 sp12 := by
  refine valT_of hC c12 _ _ _ inj12 ?_
  rintro ⟨p_o, p_qty, p_price, p_seq⟩
  show Imq (g_snafflelaw07_OrderAsks p_o p_qty p_price p_seq) (fun _ => True) fun r => WP Try.prog C (fun _ => False) cd12 (retQ fun s => outV s rs12 = some (.bool r)) ⟨⟨175, [(0, (.val (.agg [(.int .i64 p_o.Id), (.int .i64 p_o.Account), (.int .i64 p_o.Symbol), (.int .i64 p_o.Side), (.int .i64 p_o.Qty), (.int .i64 p_o.Price), (.int .i64 p_o.Filled), (.int .i64 p_o.Phase), (.int .i64 p_o.NewQty), (.int .i64 p_o.NewPrice), (.int .i64 p_o.Version), (.bool p_o.Asked)]))), (1, (.val (.int .i64 p_qty))), (2, (.val (.int .i64 p_price))), (3, (.val (.int .i64 p_seq)))]⟩, mkH []⟩
  unfold g_snafflelaw07_OrderAsks
  refine G_seq ?_
  refine G_region ?_
  refine G_op [1001] (v := (.box [1001] 0)) (E_a (u := (.box [1001] 0)) (b := (.box [(.val (.int .i64 p_o.Id)), (.val (.int .i64 p_o.Account)), (.val (.int .i64 p_o.Symbol)), (.val (.int .i64 p_o.Side)), (.val (.int .i64 p_o.Qty)), (.val (.int .i64 p_o.Price)), (.val (.int .i64 p_o.Filled)), (.val (.int .i64 p_o.Phase)), (.val (.int .i64 p_o.NewQty)), (.val (.int .i64 p_o.NewPrice)), (.val (.int .i64 p_o.Version)), (.val (.bool p_o.Asked))])) (h' := [([1001], (.box [(.val (.int .i64 p_o.Id)), (.val (.int .i64 p_o.Account)), (.val (.int .i64 p_o.Symbol)), (.val (.int .i64 p_o.Side)), (.val (.int .i64 p_o.Qty)), (.val (.int .i64 p_o.Price)), (.val (.int .i64 p_o.Filled)), (.val (.int .i64 p_o.Phase)), (.val (.int .i64 p_o.NewQty)), (.val (.int .i64 p_o.NewPrice)), (.val (.int .i64 p_o.Version)), (.val (.bool p_o.Asked))]))]) (by kernel_rfl) (by kernel_rfl) (by kernel_rfl)) rfl rfl ?_
  refine G_op [0] (v := (.val (.bool false))) (E_p (by kernel_rfl)) rfl rfl ?_
  refine G_nil ?_
  refine G_then ?_
  refine G_seq ?_
  refine G_seq ?_
  refine G_region ?_
  refine q_bind fun v1 hv1 => ?_
  refine G_op [0] (v := (.val (.bool v1))) (E_call (ds := []) (r := .bool v1) hc38 (by kernel_rfl) ((hs38 _ (by kernel_rfl)).trans (congrArg _ hv1))) rfl rfl ?_
  refine G_op [0] (v := (.val (.bool (!v1)))) (E_p (by kernel_rfl)) rfl rfl ?_
  refine G_nil ?_
  refine G_then ?_
  refine G_cond (t := (!v1)) (by kernel_rfl) (fun _ => ?_) (fun _ => ?_)
  · refine G_seq ?_
    refine G_region ?_
    refine G_op [0] (v := (.val (.bool false))) (E_p (by kernel_rfl)) rfl rfl ?_
    refine G_nil ?_
    refine G_then ?_
    refine G_ret ?_
    refine G_thenR ?_
    refine G_retR ?_
    refine q_some fun hA => ?_
    show outV _ _ = some _
    kernel_rfl
  · refine G_skip ?_
    refine G_then ?_
    refine G_seq ?_
    refine G_seq ?_
    refine G_region ?_
    refine G_op [0] (v := (.agg [(.val (.int .i64 p_o.Id)), (.val (.int .i64 p_o.Account)), (.val (.int .i64 p_o.Symbol)), (.val (.int .i64 p_o.Side)), (.val (.int .i64 p_o.Qty)), (.val (.int .i64 p_o.Price)), (.val (.int .i64 p_o.Filled)), (.val (.int .i64 p_o.Phase)), (.val (.int .i64 p_o.NewQty)), (.val (.int .i64 p_o.NewPrice)), (.val (.int .i64 p_o.Version)), (.val (.bool p_o.Asked))])) (E_load (by kernel_rfl)) rfl rfl ?_
    refine q_bind fun v2 hv2 => ?_
    refine G_op [0] (v := (.val (.bool v2))) (E_call (ds := [.agg (e_OrderT p_o)]) (r := .bool v2) hc41 (by kernel_rfl) ((hs41 p_o _ (by kernel_rfl)).trans (congrArg _ hv2))) rfl rfl ?_
    refine G_op [0] (v := (.val (.bool (!v2)))) (E_p (by kernel_rfl)) rfl rfl ?_
    refine G_op [0] (v := (.val (.bool (!v2)))) (E_p (by kernel_rfl)) rfl rfl ?_
    refine G_pure (l := t12_0) (st := ⟨⟨175, [(30, (.val (.bool ((!v2) || (decide (p_seq < 1)))))), (8, (.val (.bool false))), (4, (.box [1001] 0)), (1, (.val (.int .i64 p_qty))), (2, (.val (.int .i64 p_price))), (3, (.val (.int .i64 p_seq)))]⟩, mkH [([1001], (.box [(.val (.int .i64 p_o.Id)), (.val (.int .i64 p_o.Account)), (.val (.int .i64 p_o.Symbol)), (.val (.int .i64 p_o.Side)), (.val (.int .i64 p_o.Qty)), (.val (.int .i64 p_o.Price)), (.val (.int .i64 p_o.Filled)), (.val (.int .i64 p_o.Phase)), (.val (.int .i64 p_o.NewQty)), (.val (.int .i64 p_o.NewPrice)), (.val (.int .i64 p_o.Version)), (.val (.bool p_o.Asked))]))]⟩) ?_ (fun r5 => ?_)
    · refine G_op [0] (v := (.val (.bool ((!v2) || (decide (p_seq < 1)))))) (E_p (by kernel_rfl)) rfl rfl ?_
      refine G_pure (l := []) (st := ⟨⟨175, [(34, (.val (.bool (((!v2) || (decide (p_seq < 1))) || (decide (p_seq > 1000)))))), (8, (.val (.bool false))), (4, (.box [1001] 0)), (1, (.val (.int .i64 p_qty))), (2, (.val (.int .i64 p_price))), (3, (.val (.int .i64 p_seq)))]⟩, mkH [([1001], (.box [(.val (.int .i64 p_o.Id)), (.val (.int .i64 p_o.Account)), (.val (.int .i64 p_o.Symbol)), (.val (.int .i64 p_o.Side)), (.val (.int .i64 p_o.Qty)), (.val (.int .i64 p_o.Price)), (.val (.int .i64 p_o.Filled)), (.val (.int .i64 p_o.Phase)), (.val (.int .i64 p_o.NewQty)), (.val (.int .i64 p_o.NewPrice)), (.val (.int .i64 p_o.Version)), (.val (.bool p_o.Asked))]))]⟩) ?_ (fun r8 => ?_)
      · refine G_nil ?_
        refine G_then ?_
        refine G_cond (t := (((!v2) || (decide (p_seq < 1))) || (decide (p_seq > 1000)))) (by kernel_rfl) (fun _ => ?_) (fun _ => ?_)
        · refine G_seq ?_
          refine G_region ?_
          refine G_op [0] (v := (.val (.bool true))) (E_p (by kernel_rfl)) rfl rfl ?_
          refine G_nil ?_
          refine G_then ?_
          refine G_ret ?_
          refine G_thenR ?_
          refine G_retR ?_
          refine q_some fun hA => ?_
          show outV _ _ = some _
          kernel_rfl
        · refine G_skip ?_
          refine G_then ?_
          refine G_seq ?_
          refine G_region ?_
          refine G_op [0] (v := (.agg [(.val (.int .i64 p_o.Id)), (.val (.int .i64 p_o.Account)), (.val (.int .i64 p_o.Symbol)), (.val (.int .i64 p_o.Side)), (.val (.int .i64 p_o.Qty)), (.val (.int .i64 p_o.Price)), (.val (.int .i64 p_o.Filled)), (.val (.int .i64 p_o.Phase)), (.val (.int .i64 p_o.NewQty)), (.val (.int .i64 p_o.NewPrice)), (.val (.int .i64 p_o.Version)), (.val (.bool p_o.Asked))])) (E_load (by kernel_rfl)) rfl rfl ?_
          refine G_op [0] (v := (.val (.int .i64 p_qty))) (E_p (by kernel_rfl)) rfl rfl ?_
          refine G_op [0] (v := (.val (.int .i64 p_price))) (E_p (by kernel_rfl)) rfl rfl ?_
          refine q_bind fun v9 hv9 => ?_
          refine G_op [0] (v := (.val (.tup [(.agg [(.int .i64 v9.1.Id), (.int .i64 v9.1.Account), (.int .i64 v9.1.Symbol), (.int .i64 v9.1.Side), (.int .i64 v9.1.Qty), (.int .i64 v9.1.Price), (.int .i64 v9.1.Filled), (.int .i64 v9.1.Phase), (.int .i64 v9.1.NewQty), (.int .i64 v9.1.NewPrice), (.int .i64 v9.1.Version), (.bool v9.1.Asked)]), (.int .i64 v9.2)]))) (E_call (ds := [.agg (e_OrderT p_o), .int .i64 p_qty, .int .i64 p_price]) (r := .tup [.agg (e_OrderT v9.1), .int .i64 v9.2]) hc45 (by kernel_rfl) ((hs45 p_o p_qty p_price _ (by kernel_rfl)).trans (congrArg _ hv9))) rfl rfl ?_
          refine G_op [0] (v := (.val (.tup [(.agg [(.int .i64 v9.1.Id), (.int .i64 v9.1.Account), (.int .i64 v9.1.Symbol), (.int .i64 v9.1.Side), (.int .i64 v9.1.Qty), (.int .i64 v9.1.Price), (.int .i64 v9.1.Filled), (.int .i64 v9.1.Phase), (.int .i64 v9.1.NewQty), (.int .i64 v9.1.NewPrice), (.int .i64 v9.1.Version), (.bool v9.1.Asked)]), (.int .i64 v9.2)]))) (E_p (by kernel_rfl)) rfl rfl ?_
          refine G_op [0] (v := (.val (.agg [(.int .i64 v9.1.Id), (.int .i64 v9.1.Account), (.int .i64 v9.1.Symbol), (.int .i64 v9.1.Side), (.int .i64 v9.1.Qty), (.int .i64 v9.1.Price), (.int .i64 v9.1.Filled), (.int .i64 v9.1.Phase), (.int .i64 v9.1.NewQty), (.int .i64 v9.1.NewPrice), (.int .i64 v9.1.Version), (.bool v9.1.Asked)]))) (E_p (by kernel_rfl)) rfl rfl ?_
          refine G_op [0] (v := (.val (.int .i64 v9.2))) (E_p (by kernel_rfl)) rfl rfl ?_
          refine G_op [1002] (v := (.box [1002] 0)) (E_a (u := (.box [1002] 0)) (b := (.box [(.val (.int .i64 0)), (.val (.int .i64 0)), (.val (.int .i64 0)), (.val (.int .i64 0)), (.val (.int .i64 0)), (.val (.int .i64 0)), (.val (.int .i64 0)), (.val (.int .i64 0)), (.val (.int .i64 0)), (.val (.int .i64 0)), (.val (.int .i64 0)), (.val (.bool false))])) (h' := [([1001], (.box [(.val (.int .i64 p_o.Id)), (.val (.int .i64 p_o.Account)), (.val (.int .i64 p_o.Symbol)), (.val (.int .i64 p_o.Side)), (.val (.int .i64 p_o.Qty)), (.val (.int .i64 p_o.Price)), (.val (.int .i64 p_o.Filled)), (.val (.int .i64 p_o.Phase)), (.val (.int .i64 p_o.NewQty)), (.val (.int .i64 p_o.NewPrice)), (.val (.int .i64 p_o.Version)), (.val (.bool p_o.Asked))])), ([1002], (.box [(.val (.int .i64 0)), (.val (.int .i64 0)), (.val (.int .i64 0)), (.val (.int .i64 0)), (.val (.int .i64 0)), (.val (.int .i64 0)), (.val (.int .i64 0)), (.val (.int .i64 0)), (.val (.int .i64 0)), (.val (.int .i64 0)), (.val (.int .i64 0)), (.val (.bool false))]))]) (by kernel_rfl) (by kernel_rfl) (by kernel_rfl)) rfl rfl ?_
          refine G_op0 [0] (v := (.val (.tup []))) (E_store (b := [1002]) (o := 0) (cs := [(.val (.int .i64 v9.1.Id)), (.val (.int .i64 v9.1.Account)), (.val (.int .i64 v9.1.Symbol)), (.val (.int .i64 v9.1.Side)), (.val (.int .i64 v9.1.Qty)), (.val (.int .i64 v9.1.Price)), (.val (.int .i64 v9.1.Filled)), (.val (.int .i64 v9.1.Phase)), (.val (.int .i64 v9.1.NewQty)), (.val (.int .i64 v9.1.NewPrice)), (.val (.int .i64 v9.1.Version)), (.val (.bool v9.1.Asked))]) (cells := [(.val (.int .i64 0)), (.val (.int .i64 0)), (.val (.int .i64 0)), (.val (.int .i64 0)), (.val (.int .i64 0)), (.val (.int .i64 0)), (.val (.int .i64 0)), (.val (.int .i64 0)), (.val (.int .i64 0)), (.val (.int .i64 0)), (.val (.int .i64 0)), (.val (.bool false))]) (cells' := [(.val (.int .i64 v9.1.Id)), (.val (.int .i64 v9.1.Account)), (.val (.int .i64 v9.1.Symbol)), (.val (.int .i64 v9.1.Side)), (.val (.int .i64 v9.1.Qty)), (.val (.int .i64 v9.1.Price)), (.val (.int .i64 v9.1.Filled)), (.val (.int .i64 v9.1.Phase)), (.val (.int .i64 v9.1.NewQty)), (.val (.int .i64 v9.1.NewPrice)), (.val (.int .i64 v9.1.Version)), (.val (.bool v9.1.Asked))]) (h' := [([1001], (.box [(.val (.int .i64 p_o.Id)), (.val (.int .i64 p_o.Account)), (.val (.int .i64 p_o.Symbol)), (.val (.int .i64 p_o.Side)), (.val (.int .i64 p_o.Qty)), (.val (.int .i64 p_o.Price)), (.val (.int .i64 p_o.Filled)), (.val (.int .i64 p_o.Phase)), (.val (.int .i64 p_o.NewQty)), (.val (.int .i64 p_o.NewPrice)), (.val (.int .i64 p_o.Version)), (.val (.bool p_o.Asked))])), ([1002], (.box [(.val (.int .i64 v9.1.Id)), (.val (.int .i64 v9.1.Account)), (.val (.int .i64 v9.1.Symbol)), (.val (.int .i64 v9.1.Side)), (.val (.int .i64 v9.1.Qty)), (.val (.int .i64 v9.1.Price)), (.val (.int .i64 v9.1.Filled)), (.val (.int .i64 v9.1.Phase)), (.val (.int .i64 v9.1.NewQty)), (.val (.int .i64 v9.1.NewPrice)), (.val (.int .i64 v9.1.Version)), (.val (.bool v9.1.Asked))]))]) (by kernel_rfl) (by kernel_rfl) (by kernel_rfl) rfl (by kernel_rfl) (by kernel_rfl) (by kernel_rfl) (by kernel_rfl)) rfl ?_
          refine G_op [0] (v := (.val (.int .i64 v9.2))) (E_p (by kernel_rfl)) rfl rfl ?_
          refine G_nil ?_
          refine G_then ?_
          refine G_seq ?_
          refine G_seq ?_
          refine G_region ?_
          refine G_op [0] (v := (.val (.int .i64 v9.2))) (E_p (by kernel_rfl)) rfl rfl ?_
          refine G_op [0] (v := (.val (.bool (v9.2 != 0)))) (E_p (by kernel_rfl)) rfl rfl ?_
          refine G_nil ?_
          refine G_then ?_
          refine G_subW (s0 := ⟨⟨175, [(43, (.val (.bool (v9.2 != 0)))), (9, (.box [1002] 0)), (8, (.val (.bool false))), (4, (.box [1001] 0)), (1, (.val (.int .i64 p_qty))), (2, (.val (.int .i64 p_price))), (3, (.val (.int .i64 p_seq)))]⟩, mkH [([1001], (.box [(.val (.int .i64 p_o.Id)), (.val (.int .i64 p_o.Account)), (.val (.int .i64 p_o.Symbol)), (.val (.int .i64 p_o.Side)), (.val (.int .i64 p_o.Qty)), (.val (.int .i64 p_o.Price)), (.val (.int .i64 p_o.Filled)), (.val (.int .i64 p_o.Phase)), (.val (.int .i64 p_o.NewQty)), (.val (.int .i64 p_o.NewPrice)), (.val (.int .i64 p_o.Version)), (.val (.bool p_o.Asked))])), ([1002], (.box [(.val (.int .i64 v9.1.Id)), (.val (.int .i64 v9.1.Account)), (.val (.int .i64 v9.1.Symbol)), (.val (.int .i64 v9.1.Side)), (.val (.int .i64 v9.1.Qty)), (.val (.int .i64 v9.1.Price)), (.val (.int .i64 v9.1.Filled)), (.val (.int .i64 v9.1.Phase)), (.val (.int .i64 v9.1.NewQty)), (.val (.int .i64 v9.1.NewPrice)), (.val (.int .i64 v9.1.Version)), (.val (.bool v9.1.Asked))]))]⟩) (by exact Sub_env ⟨.refl _, .refl _, .refl _, .refl _, .refl _, .refl _, .refl _, trivial⟩) ?_
          refine G_cond (t := (v9.2 != 0)) (by kernel_rfl) (fun _ => ?_) (fun _ => ?_)
          · refine G_seq ?_
            refine G_region ?_
            refine G_op [0] (v := (.agg [(.val (.int .i64 v9.1.Id)), (.val (.int .i64 v9.1.Account)), (.val (.int .i64 v9.1.Symbol)), (.val (.int .i64 v9.1.Side)), (.val (.int .i64 v9.1.Qty)), (.val (.int .i64 v9.1.Price)), (.val (.int .i64 v9.1.Filled)), (.val (.int .i64 v9.1.Phase)), (.val (.int .i64 v9.1.NewQty)), (.val (.int .i64 v9.1.NewPrice)), (.val (.int .i64 v9.1.Version)), (.val (.bool v9.1.Asked))])) (E_load (by kernel_rfl)) rfl rfl ?_
            refine G_op [0] (v := (.agg [(.val (.int .i64 p_o.Id)), (.val (.int .i64 p_o.Account)), (.val (.int .i64 p_o.Symbol)), (.val (.int .i64 p_o.Side)), (.val (.int .i64 p_o.Qty)), (.val (.int .i64 p_o.Price)), (.val (.int .i64 p_o.Filled)), (.val (.int .i64 p_o.Phase)), (.val (.int .i64 p_o.NewQty)), (.val (.int .i64 p_o.NewPrice)), (.val (.int .i64 p_o.Version)), (.val (.bool p_o.Asked))])) (E_load (by kernel_rfl)) rfl rfl ?_
            refine G_op [0] (v := (.val (.bool ((v9.1.Id == p_o.Id) && ((v9.1.Account == p_o.Account) && ((v9.1.Symbol == p_o.Symbol) && ((v9.1.Side == p_o.Side) && ((v9.1.Qty == p_o.Qty) && ((v9.1.Price == p_o.Price) && ((v9.1.Filled == p_o.Filled) && ((v9.1.Phase == p_o.Phase) && ((v9.1.NewQty == p_o.NewQty) && ((v9.1.NewPrice == p_o.NewPrice) && ((v9.1.Version == p_o.Version) && ((v9.1.Asked == p_o.Asked) && true))))))))))))))) (E_p (by kernel_rfl)) rfl rfl ?_
            refine G_op [0] (v := (.val (.bool ((v9.1.Id == p_o.Id) && ((v9.1.Account == p_o.Account) && ((v9.1.Symbol == p_o.Symbol) && ((v9.1.Side == p_o.Side) && ((v9.1.Qty == p_o.Qty) && ((v9.1.Price == p_o.Price) && ((v9.1.Filled == p_o.Filled) && ((v9.1.Phase == p_o.Phase) && ((v9.1.NewQty == p_o.NewQty) && ((v9.1.NewPrice == p_o.NewPrice) && ((v9.1.Version == p_o.Version) && ((v9.1.Asked == p_o.Asked) && true))))))))))))))) (E_p (by kernel_rfl)) rfl rfl ?_
            refine G_nil ?_
            refine G_then ?_
            refine G_ret ?_
            refine G_thenR ?_
            refine G_retR ?_
            refine q_some fun hA => ?_
            show outV _ _ = some _
            kernel_rfl
          · refine G_skip ?_
            refine G_then ?_
            refine G_seq ?_
            refine G_region ?_
            refine G_op [0] (v := (.agg [(.val (.int .i64 p_o.Id)), (.val (.int .i64 p_o.Account)), (.val (.int .i64 p_o.Symbol)), (.val (.int .i64 p_o.Side)), (.val (.int .i64 p_o.Qty)), (.val (.int .i64 p_o.Price)), (.val (.int .i64 p_o.Filled)), (.val (.int .i64 p_o.Phase)), (.val (.int .i64 p_o.NewQty)), (.val (.int .i64 p_o.NewPrice)), (.val (.int .i64 p_o.Version)), (.val (.bool p_o.Asked))])) (E_load (by kernel_rfl)) rfl rfl ?_
            refine q_bind fun v10 hv10 => ?_
            refine G_op [0] (v := (.val (.tup [(.int .i64 v10.1), (.int .i64 v10.2)]))) (E_call (ds := [.agg (e_OrderT p_o)]) (r := .tup [.int .i64 v10.1, .int .i64 v10.2]) hc49 (by kernel_rfl) ((hs49 p_o _ (by kernel_rfl)).trans (congrArg _ hv10))) rfl rfl ?_
            refine G_op [0] (v := (.val (.tup [(.int .i64 v10.1), (.int .i64 v10.2)]))) (E_p (by kernel_rfl)) rfl rfl ?_
            refine G_op [0] (v := (.val (.int .i64 v10.1))) (E_p (by kernel_rfl)) rfl rfl ?_
            refine G_op [0] (v := (.val (.int .i64 v10.2))) (E_p (by kernel_rfl)) rfl rfl ?_
            refine G_op [0] (v := (.val (.int .i64 v10.1))) (E_p (by kernel_rfl)) rfl rfl ?_
            refine G_op [0] (v := (.val (.int .i64 v10.2))) (E_p (by kernel_rfl)) rfl rfl ?_
            refine G_nil ?_
            refine G_then ?_
            refine G_seq ?_
            refine G_region ?_
            refine G_op [0] (v := (.agg [(.val (.int .i64 v9.1.Id)), (.val (.int .i64 v9.1.Account)), (.val (.int .i64 v9.1.Symbol)), (.val (.int .i64 v9.1.Side)), (.val (.int .i64 v9.1.Qty)), (.val (.int .i64 v9.1.Price)), (.val (.int .i64 v9.1.Filled)), (.val (.int .i64 v9.1.Phase)), (.val (.int .i64 v9.1.NewQty)), (.val (.int .i64 v9.1.NewPrice)), (.val (.int .i64 v9.1.Version)), (.val (.bool v9.1.Asked))])) (E_load (by kernel_rfl)) rfl rfl ?_
            refine q_bind fun v11 hv11 => ?_
            refine G_op [0] (v := (.val (.tup [(.int .i64 v11.1), (.int .i64 v11.2)]))) (E_call (ds := [.agg (e_OrderT v9.1)]) (r := .tup [.int .i64 v11.1, .int .i64 v11.2]) hc49 (by kernel_rfl) ((hs49 v9.1 _ (by kernel_rfl)).trans (congrArg _ hv11))) rfl rfl ?_
            refine G_op [0] (v := (.val (.tup [(.int .i64 v11.1), (.int .i64 v11.2)]))) (E_p (by kernel_rfl)) rfl rfl ?_
            refine G_op [0] (v := (.val (.int .i64 v11.1))) (E_p (by kernel_rfl)) rfl rfl ?_
            refine G_op [0] (v := (.val (.int .i64 v11.2))) (E_p (by kernel_rfl)) rfl rfl ?_
            refine G_op [0] (v := (.val (.int .i64 v11.1))) (E_p (by kernel_rfl)) rfl rfl ?_
            refine G_op [0] (v := (.val (.int .i64 v11.2))) (E_p (by kernel_rfl)) rfl rfl ?_
            refine G_nil ?_
            refine G_then ?_
            refine G_subW (s0 := ⟨⟨175, [(14, (.val (.int .i64 v11.2))), (13, (.val (.int .i64 v11.1))), (12, (.val (.int .i64 v10.2))), (11, (.val (.int .i64 v10.1))), (9, (.box [1002] 0)), (8, (.val (.bool false))), (4, (.box [1001] 0)), (1, (.val (.int .i64 p_qty))), (2, (.val (.int .i64 p_price))), (3, (.val (.int .i64 p_seq)))]⟩, mkH [([1001], (.box [(.val (.int .i64 p_o.Id)), (.val (.int .i64 p_o.Account)), (.val (.int .i64 p_o.Symbol)), (.val (.int .i64 p_o.Side)), (.val (.int .i64 p_o.Qty)), (.val (.int .i64 p_o.Price)), (.val (.int .i64 p_o.Filled)), (.val (.int .i64 p_o.Phase)), (.val (.int .i64 p_o.NewQty)), (.val (.int .i64 p_o.NewPrice)), (.val (.int .i64 p_o.Version)), (.val (.bool p_o.Asked))])), ([1002], (.box [(.val (.int .i64 v9.1.Id)), (.val (.int .i64 v9.1.Account)), (.val (.int .i64 v9.1.Symbol)), (.val (.int .i64 v9.1.Side)), (.val (.int .i64 v9.1.Qty)), (.val (.int .i64 v9.1.Price)), (.val (.int .i64 v9.1.Filled)), (.val (.int .i64 v9.1.Phase)), (.val (.int .i64 v9.1.NewQty)), (.val (.int .i64 v9.1.NewPrice)), (.val (.int .i64 v9.1.Version)), (.val (.bool v9.1.Asked))]))]⟩) (by exact Sub_env ⟨.refl _, .refl _, .refl _, .refl _, .refl _, .refl _, .refl _, .refl _, .refl _, .refl _, trivial⟩) ?_
            refine G_seq ?_
            refine G_region ?_
            refine G_op [0] (v := (.agg [(.val (.int .i64 v9.1.Id)), (.val (.int .i64 v9.1.Account)), (.val (.int .i64 v9.1.Symbol)), (.val (.int .i64 v9.1.Side)), (.val (.int .i64 v9.1.Qty)), (.val (.int .i64 v9.1.Price)), (.val (.int .i64 v9.1.Filled)), (.val (.int .i64 v9.1.Phase)), (.val (.int .i64 v9.1.NewQty)), (.val (.int .i64 v9.1.NewPrice)), (.val (.int .i64 v9.1.Version)), (.val (.bool v9.1.Asked))])) (E_load (by kernel_rfl)) rfl rfl ?_
            refine G_op [0] (v := (.val (.int .i64 p_qty))) (E_p (by kernel_rfl)) rfl rfl ?_
            refine G_op [0] (v := (.val (.int .i64 p_price))) (E_p (by kernel_rfl)) rfl rfl ?_
            refine q_bind fun v12 hv12 => ?_
            refine G_op [0] (v := (.val (.tup [(.agg [(.int .i64 v12.1.Id), (.int .i64 v12.1.Account), (.int .i64 v12.1.Symbol), (.int .i64 v12.1.Side), (.int .i64 v12.1.Qty), (.int .i64 v12.1.Price), (.int .i64 v12.1.Filled), (.int .i64 v12.1.Phase), (.int .i64 v12.1.NewQty), (.int .i64 v12.1.NewPrice), (.int .i64 v12.1.Version), (.bool v12.1.Asked)]), (.int .i64 v12.2)]))) (E_call (ds := [.agg (e_OrderT v9.1), .int .i64 p_qty, .int .i64 p_price]) (r := .tup [.agg (e_OrderT v12.1), .int .i64 v12.2]) hc45 (by kernel_rfl) ((hs45 v9.1 p_qty p_price _ (by kernel_rfl)).trans (congrArg _ hv12))) rfl rfl ?_
            refine G_op [0] (v := (.val (.tup [(.agg [(.int .i64 v12.1.Id), (.int .i64 v12.1.Account), (.int .i64 v12.1.Symbol), (.int .i64 v12.1.Side), (.int .i64 v12.1.Qty), (.int .i64 v12.1.Price), (.int .i64 v12.1.Filled), (.int .i64 v12.1.Phase), (.int .i64 v12.1.NewQty), (.int .i64 v12.1.NewPrice), (.int .i64 v12.1.Version), (.bool v12.1.Asked)]), (.int .i64 v12.2)]))) (E_p (by kernel_rfl)) rfl rfl ?_
            refine G_op [0] (v := (.val (.agg [(.int .i64 v12.1.Id), (.int .i64 v12.1.Account), (.int .i64 v12.1.Symbol), (.int .i64 v12.1.Side), (.int .i64 v12.1.Qty), (.int .i64 v12.1.Price), (.int .i64 v12.1.Filled), (.int .i64 v12.1.Phase), (.int .i64 v12.1.NewQty), (.int .i64 v12.1.NewPrice), (.int .i64 v12.1.Version), (.bool v12.1.Asked)]))) (E_p (by kernel_rfl)) rfl rfl ?_
            refine G_op [0] (v := (.val (.int .i64 v12.2))) (E_p (by kernel_rfl)) rfl rfl ?_
            refine G_op [1003] (v := (.box [1003] 0)) (E_a (u := (.box [1003] 0)) (b := (.box [(.val (.int .i64 0)), (.val (.int .i64 0)), (.val (.int .i64 0)), (.val (.int .i64 0)), (.val (.int .i64 0)), (.val (.int .i64 0)), (.val (.int .i64 0)), (.val (.int .i64 0)), (.val (.int .i64 0)), (.val (.int .i64 0)), (.val (.int .i64 0)), (.val (.bool false))])) (h' := [([1001], (.box [(.val (.int .i64 p_o.Id)), (.val (.int .i64 p_o.Account)), (.val (.int .i64 p_o.Symbol)), (.val (.int .i64 p_o.Side)), (.val (.int .i64 p_o.Qty)), (.val (.int .i64 p_o.Price)), (.val (.int .i64 p_o.Filled)), (.val (.int .i64 p_o.Phase)), (.val (.int .i64 p_o.NewQty)), (.val (.int .i64 p_o.NewPrice)), (.val (.int .i64 p_o.Version)), (.val (.bool p_o.Asked))])), ([1002], (.box [(.val (.int .i64 v9.1.Id)), (.val (.int .i64 v9.1.Account)), (.val (.int .i64 v9.1.Symbol)), (.val (.int .i64 v9.1.Side)), (.val (.int .i64 v9.1.Qty)), (.val (.int .i64 v9.1.Price)), (.val (.int .i64 v9.1.Filled)), (.val (.int .i64 v9.1.Phase)), (.val (.int .i64 v9.1.NewQty)), (.val (.int .i64 v9.1.NewPrice)), (.val (.int .i64 v9.1.Version)), (.val (.bool v9.1.Asked))])), ([1003], (.box [(.val (.int .i64 0)), (.val (.int .i64 0)), (.val (.int .i64 0)), (.val (.int .i64 0)), (.val (.int .i64 0)), (.val (.int .i64 0)), (.val (.int .i64 0)), (.val (.int .i64 0)), (.val (.int .i64 0)), (.val (.int .i64 0)), (.val (.int .i64 0)), (.val (.bool false))]))]) (by kernel_rfl) (by kernel_rfl) (by kernel_rfl)) rfl rfl ?_
            refine G_op0 [0] (v := (.val (.tup []))) (E_store (b := [1003]) (o := 0) (cs := [(.val (.int .i64 v12.1.Id)), (.val (.int .i64 v12.1.Account)), (.val (.int .i64 v12.1.Symbol)), (.val (.int .i64 v12.1.Side)), (.val (.int .i64 v12.1.Qty)), (.val (.int .i64 v12.1.Price)), (.val (.int .i64 v12.1.Filled)), (.val (.int .i64 v12.1.Phase)), (.val (.int .i64 v12.1.NewQty)), (.val (.int .i64 v12.1.NewPrice)), (.val (.int .i64 v12.1.Version)), (.val (.bool v12.1.Asked))]) (cells := [(.val (.int .i64 0)), (.val (.int .i64 0)), (.val (.int .i64 0)), (.val (.int .i64 0)), (.val (.int .i64 0)), (.val (.int .i64 0)), (.val (.int .i64 0)), (.val (.int .i64 0)), (.val (.int .i64 0)), (.val (.int .i64 0)), (.val (.int .i64 0)), (.val (.bool false))]) (cells' := [(.val (.int .i64 v12.1.Id)), (.val (.int .i64 v12.1.Account)), (.val (.int .i64 v12.1.Symbol)), (.val (.int .i64 v12.1.Side)), (.val (.int .i64 v12.1.Qty)), (.val (.int .i64 v12.1.Price)), (.val (.int .i64 v12.1.Filled)), (.val (.int .i64 v12.1.Phase)), (.val (.int .i64 v12.1.NewQty)), (.val (.int .i64 v12.1.NewPrice)), (.val (.int .i64 v12.1.Version)), (.val (.bool v12.1.Asked))]) (h' := [([1001], (.box [(.val (.int .i64 p_o.Id)), (.val (.int .i64 p_o.Account)), (.val (.int .i64 p_o.Symbol)), (.val (.int .i64 p_o.Side)), (.val (.int .i64 p_o.Qty)), (.val (.int .i64 p_o.Price)), (.val (.int .i64 p_o.Filled)), (.val (.int .i64 p_o.Phase)), (.val (.int .i64 p_o.NewQty)), (.val (.int .i64 p_o.NewPrice)), (.val (.int .i64 p_o.Version)), (.val (.bool p_o.Asked))])), ([1002], (.box [(.val (.int .i64 v9.1.Id)), (.val (.int .i64 v9.1.Account)), (.val (.int .i64 v9.1.Symbol)), (.val (.int .i64 v9.1.Side)), (.val (.int .i64 v9.1.Qty)), (.val (.int .i64 v9.1.Price)), (.val (.int .i64 v9.1.Filled)), (.val (.int .i64 v9.1.Phase)), (.val (.int .i64 v9.1.NewQty)), (.val (.int .i64 v9.1.NewPrice)), (.val (.int .i64 v9.1.Version)), (.val (.bool v9.1.Asked))])), ([1003], (.box [(.val (.int .i64 v12.1.Id)), (.val (.int .i64 v12.1.Account)), (.val (.int .i64 v12.1.Symbol)), (.val (.int .i64 v12.1.Side)), (.val (.int .i64 v12.1.Qty)), (.val (.int .i64 v12.1.Price)), (.val (.int .i64 v12.1.Filled)), (.val (.int .i64 v12.1.Phase)), (.val (.int .i64 v12.1.NewQty)), (.val (.int .i64 v12.1.NewPrice)), (.val (.int .i64 v12.1.Version)), (.val (.bool v12.1.Asked))]))]) (by kernel_rfl) (by kernel_rfl) (by kernel_rfl) rfl (by kernel_rfl) (by kernel_rfl) (by kernel_rfl) (by kernel_rfl)) rfl ?_
            refine G_op [0] (v := (.val (.int .i64 v12.2))) (E_p (by kernel_rfl)) rfl rfl ?_
            refine G_nil ?_
            refine G_then ?_
            refine G_seq ?_
            refine G_seq ?_
            refine G_join (st := fun j13 => ⟨⟨175, [(102, (.val (.bool j13))), (9, (.box [1002] 0)), (8, (.val (.bool false))), (4, (.box [1001] 0)), (1, (.val (.int .i64 p_qty))), (2, (.val (.int .i64 p_price))), (3, (.val (.int .i64 p_seq)))]⟩, mkH [([1001], (.box [(.val (.int .i64 p_o.Id)), (.val (.int .i64 p_o.Account)), (.val (.int .i64 p_o.Symbol)), (.val (.int .i64 p_o.Side)), (.val (.int .i64 p_o.Qty)), (.val (.int .i64 p_o.Price)), (.val (.int .i64 p_o.Filled)), (.val (.int .i64 p_o.Phase)), (.val (.int .i64 p_o.NewQty)), (.val (.int .i64 p_o.NewPrice)), (.val (.int .i64 p_o.Version)), (.val (.bool p_o.Asked))])), ([1002], (.box [(.val (.int .i64 v9.1.Id)), (.val (.int .i64 v9.1.Account)), (.val (.int .i64 v9.1.Symbol)), (.val (.int .i64 v9.1.Side)), (.val (.int .i64 v9.1.Qty)), (.val (.int .i64 v9.1.Price)), (.val (.int .i64 v9.1.Filled)), (.val (.int .i64 v9.1.Phase)), (.val (.int .i64 v9.1.NewQty)), (.val (.int .i64 v9.1.NewPrice)), (.val (.int .i64 v9.1.Version)), (.val (.bool v9.1.Asked))]))]⟩) (fun j13 => ?_) (fun r14 hr14 => ?_)
            · refine G_then ?_
              refine G_cond (t := j13) (by kernel_rfl) (fun _ => ?_) (fun _ => ?_)
              · refine G_seq ?_
                refine G_region ?_
                refine G_op [0] (v := (.val (.bool false))) (E_p (by kernel_rfl)) rfl rfl ?_
                refine G_nil ?_
                refine G_then ?_
                refine G_ret ?_
                refine G_thenR ?_
                refine G_retR ?_
                refine q_some fun hA => ?_
                show outV _ _ = some _
                kernel_rfl
              · refine G_skip ?_
                refine G_then ?_
                refine G_seq ?_
                refine G_region ?_
                refine G_op [0] (v := (.agg [(.val (.int .i64 v9.1.Id)), (.val (.int .i64 v9.1.Account)), (.val (.int .i64 v9.1.Symbol)), (.val (.int .i64 v9.1.Side)), (.val (.int .i64 v9.1.Qty)), (.val (.int .i64 v9.1.Price)), (.val (.int .i64 v9.1.Filled)), (.val (.int .i64 v9.1.Phase)), (.val (.int .i64 v9.1.NewQty)), (.val (.int .i64 v9.1.NewPrice)), (.val (.int .i64 v9.1.Version)), (.val (.bool v9.1.Asked))])) (E_load (by kernel_rfl)) rfl rfl ?_
                refine G_op [0] (v := (.val (.int .i64 p_seq))) (E_p (by kernel_rfl)) rfl rfl ?_
                refine G_op [0] (v := (.box [1001] 0)) (E_p (by kernel_rfl)) rfl rfl ?_
                refine G_op [0] (v := (.val (.int .i64 p_o.Id))) (E_load (by kernel_rfl)) rfl rfl ?_
                refine G_op [0] (v := (.agg [(.val (.int .i64 p_seq)), (.val (.int .i64 6)), (.val (.int .i64 p_o.Id)), (.val (.int .i64 0)), (.val (.int .i64 0))])) (E_p (by kernel_rfl)) rfl rfl ?_
                refine q_bind fun v35 hv35 => ?_
                refine G_op [0] (v := (.val (.tup [(.agg [(.int .i64 v35.1.Id), (.int .i64 v35.1.Account), (.int .i64 v35.1.Symbol), (.int .i64 v35.1.Side), (.int .i64 v35.1.Qty), (.int .i64 v35.1.Price), (.int .i64 v35.1.Filled), (.int .i64 v35.1.Phase), (.int .i64 v35.1.NewQty), (.int .i64 v35.1.NewPrice), (.int .i64 v35.1.Version), (.bool v35.1.Asked)]), (.int .i64 v35.2)]))) (E_call (ds := [.agg (e_OrderT v9.1), .agg (e_NoteT (NoteT.mk p_seq 6 p_o.Id 0 0))]) (r := .tup [.agg (e_OrderT v35.1), .int .i64 v35.2]) hc43 (by kernel_rfl) ((hs43 v9.1 (NoteT.mk p_seq 6 p_o.Id 0 0) _ (by kernel_rfl)).trans (congrArg _ hv35))) rfl rfl ?_
                refine G_op [0] (v := (.val (.tup [(.agg [(.int .i64 v35.1.Id), (.int .i64 v35.1.Account), (.int .i64 v35.1.Symbol), (.int .i64 v35.1.Side), (.int .i64 v35.1.Qty), (.int .i64 v35.1.Price), (.int .i64 v35.1.Filled), (.int .i64 v35.1.Phase), (.int .i64 v35.1.NewQty), (.int .i64 v35.1.NewPrice), (.int .i64 v35.1.Version), (.bool v35.1.Asked)]), (.int .i64 v35.2)]))) (E_p (by kernel_rfl)) rfl rfl ?_
                refine G_op [0] (v := (.val (.agg [(.int .i64 v35.1.Id), (.int .i64 v35.1.Account), (.int .i64 v35.1.Symbol), (.int .i64 v35.1.Side), (.int .i64 v35.1.Qty), (.int .i64 v35.1.Price), (.int .i64 v35.1.Filled), (.int .i64 v35.1.Phase), (.int .i64 v35.1.NewQty), (.int .i64 v35.1.NewPrice), (.int .i64 v35.1.Version), (.bool v35.1.Asked)]))) (E_p (by kernel_rfl)) rfl rfl ?_
                refine G_op [0] (v := (.val (.int .i64 v35.2))) (E_p (by kernel_rfl)) rfl rfl ?_
                refine G_op [1004] (v := (.box [1004] 0)) (E_a (u := (.box [1004] 0)) (b := (.box [(.val (.int .i64 0)), (.val (.int .i64 0)), (.val (.int .i64 0)), (.val (.int .i64 0)), (.val (.int .i64 0)), (.val (.int .i64 0)), (.val (.int .i64 0)), (.val (.int .i64 0)), (.val (.int .i64 0)), (.val (.int .i64 0)), (.val (.int .i64 0)), (.val (.bool false))])) (h' := [([1001], (.box [(.val (.int .i64 p_o.Id)), (.val (.int .i64 p_o.Account)), (.val (.int .i64 p_o.Symbol)), (.val (.int .i64 p_o.Side)), (.val (.int .i64 p_o.Qty)), (.val (.int .i64 p_o.Price)), (.val (.int .i64 p_o.Filled)), (.val (.int .i64 p_o.Phase)), (.val (.int .i64 p_o.NewQty)), (.val (.int .i64 p_o.NewPrice)), (.val (.int .i64 p_o.Version)), (.val (.bool p_o.Asked))])), ([1002], (.box [(.val (.int .i64 v9.1.Id)), (.val (.int .i64 v9.1.Account)), (.val (.int .i64 v9.1.Symbol)), (.val (.int .i64 v9.1.Side)), (.val (.int .i64 v9.1.Qty)), (.val (.int .i64 v9.1.Price)), (.val (.int .i64 v9.1.Filled)), (.val (.int .i64 v9.1.Phase)), (.val (.int .i64 v9.1.NewQty)), (.val (.int .i64 v9.1.NewPrice)), (.val (.int .i64 v9.1.Version)), (.val (.bool v9.1.Asked))])), ([1004], (.box [(.val (.int .i64 0)), (.val (.int .i64 0)), (.val (.int .i64 0)), (.val (.int .i64 0)), (.val (.int .i64 0)), (.val (.int .i64 0)), (.val (.int .i64 0)), (.val (.int .i64 0)), (.val (.int .i64 0)), (.val (.int .i64 0)), (.val (.int .i64 0)), (.val (.bool false))]))]) (by kernel_rfl) (by kernel_rfl) (by kernel_rfl)) rfl rfl ?_
                refine G_op0 [0] (v := (.val (.tup []))) (E_store (b := [1004]) (o := 0) (cs := [(.val (.int .i64 v35.1.Id)), (.val (.int .i64 v35.1.Account)), (.val (.int .i64 v35.1.Symbol)), (.val (.int .i64 v35.1.Side)), (.val (.int .i64 v35.1.Qty)), (.val (.int .i64 v35.1.Price)), (.val (.int .i64 v35.1.Filled)), (.val (.int .i64 v35.1.Phase)), (.val (.int .i64 v35.1.NewQty)), (.val (.int .i64 v35.1.NewPrice)), (.val (.int .i64 v35.1.Version)), (.val (.bool v35.1.Asked))]) (cells := [(.val (.int .i64 0)), (.val (.int .i64 0)), (.val (.int .i64 0)), (.val (.int .i64 0)), (.val (.int .i64 0)), (.val (.int .i64 0)), (.val (.int .i64 0)), (.val (.int .i64 0)), (.val (.int .i64 0)), (.val (.int .i64 0)), (.val (.int .i64 0)), (.val (.bool false))]) (cells' := [(.val (.int .i64 v35.1.Id)), (.val (.int .i64 v35.1.Account)), (.val (.int .i64 v35.1.Symbol)), (.val (.int .i64 v35.1.Side)), (.val (.int .i64 v35.1.Qty)), (.val (.int .i64 v35.1.Price)), (.val (.int .i64 v35.1.Filled)), (.val (.int .i64 v35.1.Phase)), (.val (.int .i64 v35.1.NewQty)), (.val (.int .i64 v35.1.NewPrice)), (.val (.int .i64 v35.1.Version)), (.val (.bool v35.1.Asked))]) (h' := [([1001], (.box [(.val (.int .i64 p_o.Id)), (.val (.int .i64 p_o.Account)), (.val (.int .i64 p_o.Symbol)), (.val (.int .i64 p_o.Side)), (.val (.int .i64 p_o.Qty)), (.val (.int .i64 p_o.Price)), (.val (.int .i64 p_o.Filled)), (.val (.int .i64 p_o.Phase)), (.val (.int .i64 p_o.NewQty)), (.val (.int .i64 p_o.NewPrice)), (.val (.int .i64 p_o.Version)), (.val (.bool p_o.Asked))])), ([1002], (.box [(.val (.int .i64 v9.1.Id)), (.val (.int .i64 v9.1.Account)), (.val (.int .i64 v9.1.Symbol)), (.val (.int .i64 v9.1.Side)), (.val (.int .i64 v9.1.Qty)), (.val (.int .i64 v9.1.Price)), (.val (.int .i64 v9.1.Filled)), (.val (.int .i64 v9.1.Phase)), (.val (.int .i64 v9.1.NewQty)), (.val (.int .i64 v9.1.NewPrice)), (.val (.int .i64 v9.1.Version)), (.val (.bool v9.1.Asked))])), ([1004], (.box [(.val (.int .i64 v35.1.Id)), (.val (.int .i64 v35.1.Account)), (.val (.int .i64 v35.1.Symbol)), (.val (.int .i64 v35.1.Side)), (.val (.int .i64 v35.1.Qty)), (.val (.int .i64 v35.1.Price)), (.val (.int .i64 v35.1.Filled)), (.val (.int .i64 v35.1.Phase)), (.val (.int .i64 v35.1.NewQty)), (.val (.int .i64 v35.1.NewPrice)), (.val (.int .i64 v35.1.Version)), (.val (.bool v35.1.Asked))]))]) (by kernel_rfl) (by kernel_rfl) (by kernel_rfl) rfl (by kernel_rfl) (by kernel_rfl) (by kernel_rfl) (by kernel_rfl)) rfl ?_
                refine G_op [0] (v := (.val (.int .i64 v35.2))) (E_p (by kernel_rfl)) rfl rfl ?_
                refine G_nil ?_
                refine G_then ?_
                refine G_subW (s0 := ⟨⟨175, [(18, (.val (.int .i64 v35.2))), (17, (.box [1004] 0)), (9, (.box [1002] 0)), (8, (.val (.bool false))), (4, (.box [1001] 0)), (1, (.val (.int .i64 p_qty))), (2, (.val (.int .i64 p_price))), (3, (.val (.int .i64 p_seq)))]⟩, mkH [([1001], (.box [(.val (.int .i64 p_o.Id)), (.val (.int .i64 p_o.Account)), (.val (.int .i64 p_o.Symbol)), (.val (.int .i64 p_o.Side)), (.val (.int .i64 p_o.Qty)), (.val (.int .i64 p_o.Price)), (.val (.int .i64 p_o.Filled)), (.val (.int .i64 p_o.Phase)), (.val (.int .i64 p_o.NewQty)), (.val (.int .i64 p_o.NewPrice)), (.val (.int .i64 p_o.Version)), (.val (.bool p_o.Asked))])), ([1002], (.box [(.val (.int .i64 v9.1.Id)), (.val (.int .i64 v9.1.Account)), (.val (.int .i64 v9.1.Symbol)), (.val (.int .i64 v9.1.Side)), (.val (.int .i64 v9.1.Qty)), (.val (.int .i64 v9.1.Price)), (.val (.int .i64 v9.1.Filled)), (.val (.int .i64 v9.1.Phase)), (.val (.int .i64 v9.1.NewQty)), (.val (.int .i64 v9.1.NewPrice)), (.val (.int .i64 v9.1.Version)), (.val (.bool v9.1.Asked))])), ([1004], (.box [(.val (.int .i64 v35.1.Id)), (.val (.int .i64 v35.1.Account)), (.val (.int .i64 v35.1.Symbol)), (.val (.int .i64 v35.1.Side)), (.val (.int .i64 v35.1.Qty)), (.val (.int .i64 v35.1.Price)), (.val (.int .i64 v35.1.Filled)), (.val (.int .i64 v35.1.Phase)), (.val (.int .i64 v35.1.NewQty)), (.val (.int .i64 v35.1.NewPrice)), (.val (.int .i64 v35.1.Version)), (.val (.bool v35.1.Asked))]))]⟩) (by exact Sub_env ⟨.refl _, .refl _, .refl _, .refl _, .refl _, .refl _, .refl _, .refl _, trivial⟩) ?_
                refine G_seq ?_
                refine G_region ?_
                refine G_op [0] (v := (.agg [(.val (.int .i64 p_o.Id)), (.val (.int .i64 p_o.Account)), (.val (.int .i64 p_o.Symbol)), (.val (.int .i64 p_o.Side)), (.val (.int .i64 p_o.Qty)), (.val (.int .i64 p_o.Price)), (.val (.int .i64 p_o.Filled)), (.val (.int .i64 p_o.Phase)), (.val (.int .i64 p_o.NewQty)), (.val (.int .i64 p_o.NewPrice)), (.val (.int .i64 p_o.Version)), (.val (.bool p_o.Asked))])) (E_load (by kernel_rfl)) rfl rfl ?_
                refine G_op [1005] (v := (.box [1005] 0)) (E_a (u := (.box [1005] 0)) (b := (.box [(.val (.int .i64 0)), (.val (.int .i64 0)), (.val (.int .i64 0)), (.val (.int .i64 0)), (.val (.int .i64 0)), (.val (.int .i64 0)), (.val (.int .i64 0)), (.val (.int .i64 0)), (.val (.int .i64 0)), (.val (.int .i64 0)), (.val (.int .i64 0)), (.val (.bool false))])) (h' := [([1001], (.box [(.val (.int .i64 p_o.Id)), (.val (.int .i64 p_o.Account)), (.val (.int .i64 p_o.Symbol)), (.val (.int .i64 p_o.Side)), (.val (.int .i64 p_o.Qty)), (.val (.int .i64 p_o.Price)), (.val (.int .i64 p_o.Filled)), (.val (.int .i64 p_o.Phase)), (.val (.int .i64 p_o.NewQty)), (.val (.int .i64 p_o.NewPrice)), (.val (.int .i64 p_o.Version)), (.val (.bool p_o.Asked))])), ([1002], (.box [(.val (.int .i64 v9.1.Id)), (.val (.int .i64 v9.1.Account)), (.val (.int .i64 v9.1.Symbol)), (.val (.int .i64 v9.1.Side)), (.val (.int .i64 v9.1.Qty)), (.val (.int .i64 v9.1.Price)), (.val (.int .i64 v9.1.Filled)), (.val (.int .i64 v9.1.Phase)), (.val (.int .i64 v9.1.NewQty)), (.val (.int .i64 v9.1.NewPrice)), (.val (.int .i64 v9.1.Version)), (.val (.bool v9.1.Asked))])), ([1004], (.box [(.val (.int .i64 v35.1.Id)), (.val (.int .i64 v35.1.Account)), (.val (.int .i64 v35.1.Symbol)), (.val (.int .i64 v35.1.Side)), (.val (.int .i64 v35.1.Qty)), (.val (.int .i64 v35.1.Price)), (.val (.int .i64 v35.1.Filled)), (.val (.int .i64 v35.1.Phase)), (.val (.int .i64 v35.1.NewQty)), (.val (.int .i64 v35.1.NewPrice)), (.val (.int .i64 v35.1.Version)), (.val (.bool v35.1.Asked))])), ([1005], (.box [(.val (.int .i64 0)), (.val (.int .i64 0)), (.val (.int .i64 0)), (.val (.int .i64 0)), (.val (.int .i64 0)), (.val (.int .i64 0)), (.val (.int .i64 0)), (.val (.int .i64 0)), (.val (.int .i64 0)), (.val (.int .i64 0)), (.val (.int .i64 0)), (.val (.bool false))]))]) (by kernel_rfl) (by kernel_rfl) (by kernel_rfl)) rfl rfl ?_
                refine G_op0 [0] (v := (.val (.tup []))) (E_store (b := [1005]) (o := 0) (cs := [(.val (.int .i64 p_o.Id)), (.val (.int .i64 p_o.Account)), (.val (.int .i64 p_o.Symbol)), (.val (.int .i64 p_o.Side)), (.val (.int .i64 p_o.Qty)), (.val (.int .i64 p_o.Price)), (.val (.int .i64 p_o.Filled)), (.val (.int .i64 p_o.Phase)), (.val (.int .i64 p_o.NewQty)), (.val (.int .i64 p_o.NewPrice)), (.val (.int .i64 p_o.Version)), (.val (.bool p_o.Asked))]) (cells := [(.val (.int .i64 0)), (.val (.int .i64 0)), (.val (.int .i64 0)), (.val (.int .i64 0)), (.val (.int .i64 0)), (.val (.int .i64 0)), (.val (.int .i64 0)), (.val (.int .i64 0)), (.val (.int .i64 0)), (.val (.int .i64 0)), (.val (.int .i64 0)), (.val (.bool false))]) (cells' := [(.val (.int .i64 p_o.Id)), (.val (.int .i64 p_o.Account)), (.val (.int .i64 p_o.Symbol)), (.val (.int .i64 p_o.Side)), (.val (.int .i64 p_o.Qty)), (.val (.int .i64 p_o.Price)), (.val (.int .i64 p_o.Filled)), (.val (.int .i64 p_o.Phase)), (.val (.int .i64 p_o.NewQty)), (.val (.int .i64 p_o.NewPrice)), (.val (.int .i64 p_o.Version)), (.val (.bool p_o.Asked))]) (h' := [([1001], (.box [(.val (.int .i64 p_o.Id)), (.val (.int .i64 p_o.Account)), (.val (.int .i64 p_o.Symbol)), (.val (.int .i64 p_o.Side)), (.val (.int .i64 p_o.Qty)), (.val (.int .i64 p_o.Price)), (.val (.int .i64 p_o.Filled)), (.val (.int .i64 p_o.Phase)), (.val (.int .i64 p_o.NewQty)), (.val (.int .i64 p_o.NewPrice)), (.val (.int .i64 p_o.Version)), (.val (.bool p_o.Asked))])), ([1002], (.box [(.val (.int .i64 v9.1.Id)), (.val (.int .i64 v9.1.Account)), (.val (.int .i64 v9.1.Symbol)), (.val (.int .i64 v9.1.Side)), (.val (.int .i64 v9.1.Qty)), (.val (.int .i64 v9.1.Price)), (.val (.int .i64 v9.1.Filled)), (.val (.int .i64 v9.1.Phase)), (.val (.int .i64 v9.1.NewQty)), (.val (.int .i64 v9.1.NewPrice)), (.val (.int .i64 v9.1.Version)), (.val (.bool v9.1.Asked))])), ([1004], (.box [(.val (.int .i64 v35.1.Id)), (.val (.int .i64 v35.1.Account)), (.val (.int .i64 v35.1.Symbol)), (.val (.int .i64 v35.1.Side)), (.val (.int .i64 v35.1.Qty)), (.val (.int .i64 v35.1.Price)), (.val (.int .i64 v35.1.Filled)), (.val (.int .i64 v35.1.Phase)), (.val (.int .i64 v35.1.NewQty)), (.val (.int .i64 v35.1.NewPrice)), (.val (.int .i64 v35.1.Version)), (.val (.bool v35.1.Asked))])), ([1005], (.box [(.val (.int .i64 p_o.Id)), (.val (.int .i64 p_o.Account)), (.val (.int .i64 p_o.Symbol)), (.val (.int .i64 p_o.Side)), (.val (.int .i64 p_o.Qty)), (.val (.int .i64 p_o.Price)), (.val (.int .i64 p_o.Filled)), (.val (.int .i64 p_o.Phase)), (.val (.int .i64 p_o.NewQty)), (.val (.int .i64 p_o.NewPrice)), (.val (.int .i64 p_o.Version)), (.val (.bool p_o.Asked))]))]) (by kernel_rfl) (by kernel_rfl) (by kernel_rfl) rfl (by kernel_rfl) (by kernel_rfl) (by kernel_rfl) (by kernel_rfl)) rfl ?_
                refine G_nil ?_
                refine G_then ?_
                refine G_seq ?_
                refine G_region ?_
                refine G_op [0] (v := (.box [1002] 10)) (E_p (by kernel_rfl)) rfl rfl ?_
                refine G_op [0] (v := (.val (.int .i64 v9.1.Version))) (E_load (by kernel_rfl)) rfl rfl ?_
                refine G_op [0] (v := (.box [1005] 10)) (E_p (by kernel_rfl)) rfl rfl ?_
                refine G_op0 [0] (v := (.val (.tup []))) (E_store (b := [1005]) (o := 10) (cs := [(.val (.int .i64 v9.1.Version))]) (cells := [(.val (.int .i64 p_o.Id)), (.val (.int .i64 p_o.Account)), (.val (.int .i64 p_o.Symbol)), (.val (.int .i64 p_o.Side)), (.val (.int .i64 p_o.Qty)), (.val (.int .i64 p_o.Price)), (.val (.int .i64 p_o.Filled)), (.val (.int .i64 p_o.Phase)), (.val (.int .i64 p_o.NewQty)), (.val (.int .i64 p_o.NewPrice)), (.val (.int .i64 p_o.Version)), (.val (.bool p_o.Asked))]) (cells' := [(.val (.int .i64 p_o.Id)), (.val (.int .i64 p_o.Account)), (.val (.int .i64 p_o.Symbol)), (.val (.int .i64 p_o.Side)), (.val (.int .i64 p_o.Qty)), (.val (.int .i64 p_o.Price)), (.val (.int .i64 p_o.Filled)), (.val (.int .i64 p_o.Phase)), (.val (.int .i64 p_o.NewQty)), (.val (.int .i64 p_o.NewPrice)), (.val (.int .i64 v9.1.Version)), (.val (.bool p_o.Asked))]) (h' := [([1001], (.box [(.val (.int .i64 p_o.Id)), (.val (.int .i64 p_o.Account)), (.val (.int .i64 p_o.Symbol)), (.val (.int .i64 p_o.Side)), (.val (.int .i64 p_o.Qty)), (.val (.int .i64 p_o.Price)), (.val (.int .i64 p_o.Filled)), (.val (.int .i64 p_o.Phase)), (.val (.int .i64 p_o.NewQty)), (.val (.int .i64 p_o.NewPrice)), (.val (.int .i64 p_o.Version)), (.val (.bool p_o.Asked))])), ([1002], (.box [(.val (.int .i64 v9.1.Id)), (.val (.int .i64 v9.1.Account)), (.val (.int .i64 v9.1.Symbol)), (.val (.int .i64 v9.1.Side)), (.val (.int .i64 v9.1.Qty)), (.val (.int .i64 v9.1.Price)), (.val (.int .i64 v9.1.Filled)), (.val (.int .i64 v9.1.Phase)), (.val (.int .i64 v9.1.NewQty)), (.val (.int .i64 v9.1.NewPrice)), (.val (.int .i64 v9.1.Version)), (.val (.bool v9.1.Asked))])), ([1004], (.box [(.val (.int .i64 v35.1.Id)), (.val (.int .i64 v35.1.Account)), (.val (.int .i64 v35.1.Symbol)), (.val (.int .i64 v35.1.Side)), (.val (.int .i64 v35.1.Qty)), (.val (.int .i64 v35.1.Price)), (.val (.int .i64 v35.1.Filled)), (.val (.int .i64 v35.1.Phase)), (.val (.int .i64 v35.1.NewQty)), (.val (.int .i64 v35.1.NewPrice)), (.val (.int .i64 v35.1.Version)), (.val (.bool v35.1.Asked))])), ([1005], (.box [(.val (.int .i64 p_o.Id)), (.val (.int .i64 p_o.Account)), (.val (.int .i64 p_o.Symbol)), (.val (.int .i64 p_o.Side)), (.val (.int .i64 p_o.Qty)), (.val (.int .i64 p_o.Price)), (.val (.int .i64 p_o.Filled)), (.val (.int .i64 p_o.Phase)), (.val (.int .i64 p_o.NewQty)), (.val (.int .i64 p_o.NewPrice)), (.val (.int .i64 v9.1.Version)), (.val (.bool p_o.Asked))]))]) (by kernel_rfl) (by kernel_rfl) (by kernel_rfl) rfl (by kernel_rfl) (by kernel_rfl) (by kernel_rfl) (by kernel_rfl)) rfl ?_
                refine G_nil ?_
                refine G_then ?_
                refine G_seq ?_
                refine G_seq ?_
                refine G_region ?_
                refine G_op [0] (v := (.val (.int .i64 v35.2))) (E_p (by kernel_rfl)) rfl rfl ?_
                refine G_op [0] (v := (.val (.bool (v35.2 != 0)))) (E_p (by kernel_rfl)) rfl rfl ?_
                refine G_op [0] (v := (.val (.bool (v35.2 != 0)))) (E_p (by kernel_rfl)) rfl rfl ?_
                refine G_pure (l := []) (st := ⟨⟨175, [(122, (.val (.bool ((v35.2 != 0) || (!((v35.1.Id == p_o.Id) && ((v35.1.Account == p_o.Account) && ((v35.1.Symbol == p_o.Symbol) && ((v35.1.Side == p_o.Side) && ((v35.1.Qty == p_o.Qty) && ((v35.1.Price == p_o.Price) && ((v35.1.Filled == p_o.Filled) && ((v35.1.Phase == p_o.Phase) && ((v35.1.NewQty == p_o.NewQty) && ((v35.1.NewPrice == p_o.NewPrice) && ((v35.1.Version == v9.1.Version) && ((v35.1.Asked == p_o.Asked) && true))))))))))))))))), (9, (.box [1002] 0)), (8, (.val (.bool false))), (4, (.box [1001] 0)), (1, (.val (.int .i64 p_qty))), (2, (.val (.int .i64 p_price))), (3, (.val (.int .i64 p_seq)))]⟩, mkH [([1001], (.box [(.val (.int .i64 p_o.Id)), (.val (.int .i64 p_o.Account)), (.val (.int .i64 p_o.Symbol)), (.val (.int .i64 p_o.Side)), (.val (.int .i64 p_o.Qty)), (.val (.int .i64 p_o.Price)), (.val (.int .i64 p_o.Filled)), (.val (.int .i64 p_o.Phase)), (.val (.int .i64 p_o.NewQty)), (.val (.int .i64 p_o.NewPrice)), (.val (.int .i64 p_o.Version)), (.val (.bool p_o.Asked))])), ([1002], (.box [(.val (.int .i64 v9.1.Id)), (.val (.int .i64 v9.1.Account)), (.val (.int .i64 v9.1.Symbol)), (.val (.int .i64 v9.1.Side)), (.val (.int .i64 v9.1.Qty)), (.val (.int .i64 v9.1.Price)), (.val (.int .i64 v9.1.Filled)), (.val (.int .i64 v9.1.Phase)), (.val (.int .i64 v9.1.NewQty)), (.val (.int .i64 v9.1.NewPrice)), (.val (.int .i64 v9.1.Version)), (.val (.bool v9.1.Asked))]))]⟩) ?_ (fun r38 => ?_)
                · refine G_nil ?_
                  refine G_then ?_
                  refine G_cond (t := ((v35.2 != 0) || (!((v35.1.Id == p_o.Id) && ((v35.1.Account == p_o.Account) && ((v35.1.Symbol == p_o.Symbol) && ((v35.1.Side == p_o.Side) && ((v35.1.Qty == p_o.Qty) && ((v35.1.Price == p_o.Price) && ((v35.1.Filled == p_o.Filled) && ((v35.1.Phase == p_o.Phase) && ((v35.1.NewQty == p_o.NewQty) && ((v35.1.NewPrice == p_o.NewPrice) && ((v35.1.Version == v9.1.Version) && ((v35.1.Asked == p_o.Asked) && true))))))))))))))) (by kernel_rfl) (fun _ => ?_) (fun _ => ?_)
                  · refine G_seq ?_
                    refine G_region ?_
                    refine G_op [0] (v := (.val (.bool false))) (E_p (by kernel_rfl)) rfl rfl ?_
                    refine G_nil ?_
                    refine G_then ?_
                    refine G_ret ?_
                    refine G_thenR ?_
                    refine G_retR ?_
                    refine q_some fun hA => ?_
                    show outV _ _ = some _
                    kernel_rfl
                  · refine G_skip ?_
                    refine G_then ?_
                    refine G_seq ?_
                    refine G_region ?_
                    refine G_op [0] (v := (.agg [(.val (.int .i64 v9.1.Id)), (.val (.int .i64 v9.1.Account)), (.val (.int .i64 v9.1.Symbol)), (.val (.int .i64 v9.1.Side)), (.val (.int .i64 v9.1.Qty)), (.val (.int .i64 v9.1.Price)), (.val (.int .i64 v9.1.Filled)), (.val (.int .i64 v9.1.Phase)), (.val (.int .i64 v9.1.NewQty)), (.val (.int .i64 v9.1.NewPrice)), (.val (.int .i64 v9.1.Version)), (.val (.bool v9.1.Asked))])) (E_load (by kernel_rfl)) rfl rfl ?_
                    refine G_op [0] (v := (.val (.int .i64 p_seq))) (E_p (by kernel_rfl)) rfl rfl ?_
                    refine G_op [0] (v := (.box [1001] 0)) (E_p (by kernel_rfl)) rfl rfl ?_
                    refine G_op [0] (v := (.val (.int .i64 p_o.Id))) (E_load (by kernel_rfl)) rfl rfl ?_
                    refine G_op [0] (v := (.val (.int .i64 p_qty))) (E_p (by kernel_rfl)) rfl rfl ?_
                    refine G_op [0] (v := (.val (.int .i64 p_price))) (E_p (by kernel_rfl)) rfl rfl ?_
                    refine G_op [0] (v := (.agg [(.val (.int .i64 p_seq)), (.val (.int .i64 5)), (.val (.int .i64 p_o.Id)), (.val (.int .i64 p_qty)), (.val (.int .i64 p_price))])) (E_p (by kernel_rfl)) rfl rfl ?_
                    refine q_bind fun v39 hv39 => ?_
                    refine G_op [0] (v := (.val (.tup [(.agg [(.int .i64 v39.1.Id), (.int .i64 v39.1.Account), (.int .i64 v39.1.Symbol), (.int .i64 v39.1.Side), (.int .i64 v39.1.Qty), (.int .i64 v39.1.Price), (.int .i64 v39.1.Filled), (.int .i64 v39.1.Phase), (.int .i64 v39.1.NewQty), (.int .i64 v39.1.NewPrice), (.int .i64 v39.1.Version), (.bool v39.1.Asked)]), (.int .i64 v39.2)]))) (E_call (ds := [.agg (e_OrderT v9.1), .agg (e_NoteT (NoteT.mk p_seq 5 p_o.Id p_qty p_price))]) (r := .tup [.agg (e_OrderT v39.1), .int .i64 v39.2]) hc43 (by kernel_rfl) ((hs43 v9.1 (NoteT.mk p_seq 5 p_o.Id p_qty p_price) _ (by kernel_rfl)).trans (congrArg _ hv39))) rfl rfl ?_
                    refine G_op [0] (v := (.val (.tup [(.agg [(.int .i64 v39.1.Id), (.int .i64 v39.1.Account), (.int .i64 v39.1.Symbol), (.int .i64 v39.1.Side), (.int .i64 v39.1.Qty), (.int .i64 v39.1.Price), (.int .i64 v39.1.Filled), (.int .i64 v39.1.Phase), (.int .i64 v39.1.NewQty), (.int .i64 v39.1.NewPrice), (.int .i64 v39.1.Version), (.bool v39.1.Asked)]), (.int .i64 v39.2)]))) (E_p (by kernel_rfl)) rfl rfl ?_
                    refine G_op [0] (v := (.val (.agg [(.int .i64 v39.1.Id), (.int .i64 v39.1.Account), (.int .i64 v39.1.Symbol), (.int .i64 v39.1.Side), (.int .i64 v39.1.Qty), (.int .i64 v39.1.Price), (.int .i64 v39.1.Filled), (.int .i64 v39.1.Phase), (.int .i64 v39.1.NewQty), (.int .i64 v39.1.NewPrice), (.int .i64 v39.1.Version), (.bool v39.1.Asked)]))) (E_p (by kernel_rfl)) rfl rfl ?_
                    refine G_op [0] (v := (.val (.int .i64 v39.2))) (E_p (by kernel_rfl)) rfl rfl ?_
                    refine G_op [1006] (v := (.box [1006] 0)) (E_a (u := (.box [1006] 0)) (b := (.box [(.val (.int .i64 0)), (.val (.int .i64 0)), (.val (.int .i64 0)), (.val (.int .i64 0)), (.val (.int .i64 0)), (.val (.int .i64 0)), (.val (.int .i64 0)), (.val (.int .i64 0)), (.val (.int .i64 0)), (.val (.int .i64 0)), (.val (.int .i64 0)), (.val (.bool false))])) (h' := [([1001], (.box [(.val (.int .i64 p_o.Id)), (.val (.int .i64 p_o.Account)), (.val (.int .i64 p_o.Symbol)), (.val (.int .i64 p_o.Side)), (.val (.int .i64 p_o.Qty)), (.val (.int .i64 p_o.Price)), (.val (.int .i64 p_o.Filled)), (.val (.int .i64 p_o.Phase)), (.val (.int .i64 p_o.NewQty)), (.val (.int .i64 p_o.NewPrice)), (.val (.int .i64 p_o.Version)), (.val (.bool p_o.Asked))])), ([1002], (.box [(.val (.int .i64 v9.1.Id)), (.val (.int .i64 v9.1.Account)), (.val (.int .i64 v9.1.Symbol)), (.val (.int .i64 v9.1.Side)), (.val (.int .i64 v9.1.Qty)), (.val (.int .i64 v9.1.Price)), (.val (.int .i64 v9.1.Filled)), (.val (.int .i64 v9.1.Phase)), (.val (.int .i64 v9.1.NewQty)), (.val (.int .i64 v9.1.NewPrice)), (.val (.int .i64 v9.1.Version)), (.val (.bool v9.1.Asked))])), ([1006], (.box [(.val (.int .i64 0)), (.val (.int .i64 0)), (.val (.int .i64 0)), (.val (.int .i64 0)), (.val (.int .i64 0)), (.val (.int .i64 0)), (.val (.int .i64 0)), (.val (.int .i64 0)), (.val (.int .i64 0)), (.val (.int .i64 0)), (.val (.int .i64 0)), (.val (.bool false))]))]) (by kernel_rfl) (by kernel_rfl) (by kernel_rfl)) rfl rfl ?_
                    refine G_op0 [0] (v := (.val (.tup []))) (E_store (b := [1006]) (o := 0) (cs := [(.val (.int .i64 v39.1.Id)), (.val (.int .i64 v39.1.Account)), (.val (.int .i64 v39.1.Symbol)), (.val (.int .i64 v39.1.Side)), (.val (.int .i64 v39.1.Qty)), (.val (.int .i64 v39.1.Price)), (.val (.int .i64 v39.1.Filled)), (.val (.int .i64 v39.1.Phase)), (.val (.int .i64 v39.1.NewQty)), (.val (.int .i64 v39.1.NewPrice)), (.val (.int .i64 v39.1.Version)), (.val (.bool v39.1.Asked))]) (cells := [(.val (.int .i64 0)), (.val (.int .i64 0)), (.val (.int .i64 0)), (.val (.int .i64 0)), (.val (.int .i64 0)), (.val (.int .i64 0)), (.val (.int .i64 0)), (.val (.int .i64 0)), (.val (.int .i64 0)), (.val (.int .i64 0)), (.val (.int .i64 0)), (.val (.bool false))]) (cells' := [(.val (.int .i64 v39.1.Id)), (.val (.int .i64 v39.1.Account)), (.val (.int .i64 v39.1.Symbol)), (.val (.int .i64 v39.1.Side)), (.val (.int .i64 v39.1.Qty)), (.val (.int .i64 v39.1.Price)), (.val (.int .i64 v39.1.Filled)), (.val (.int .i64 v39.1.Phase)), (.val (.int .i64 v39.1.NewQty)), (.val (.int .i64 v39.1.NewPrice)), (.val (.int .i64 v39.1.Version)), (.val (.bool v39.1.Asked))]) (h' := [([1001], (.box [(.val (.int .i64 p_o.Id)), (.val (.int .i64 p_o.Account)), (.val (.int .i64 p_o.Symbol)), (.val (.int .i64 p_o.Side)), (.val (.int .i64 p_o.Qty)), (.val (.int .i64 p_o.Price)), (.val (.int .i64 p_o.Filled)), (.val (.int .i64 p_o.Phase)), (.val (.int .i64 p_o.NewQty)), (.val (.int .i64 p_o.NewPrice)), (.val (.int .i64 p_o.Version)), (.val (.bool p_o.Asked))])), ([1002], (.box [(.val (.int .i64 v9.1.Id)), (.val (.int .i64 v9.1.Account)), (.val (.int .i64 v9.1.Symbol)), (.val (.int .i64 v9.1.Side)), (.val (.int .i64 v9.1.Qty)), (.val (.int .i64 v9.1.Price)), (.val (.int .i64 v9.1.Filled)), (.val (.int .i64 v9.1.Phase)), (.val (.int .i64 v9.1.NewQty)), (.val (.int .i64 v9.1.NewPrice)), (.val (.int .i64 v9.1.Version)), (.val (.bool v9.1.Asked))])), ([1006], (.box [(.val (.int .i64 v39.1.Id)), (.val (.int .i64 v39.1.Account)), (.val (.int .i64 v39.1.Symbol)), (.val (.int .i64 v39.1.Side)), (.val (.int .i64 v39.1.Qty)), (.val (.int .i64 v39.1.Price)), (.val (.int .i64 v39.1.Filled)), (.val (.int .i64 v39.1.Phase)), (.val (.int .i64 v39.1.NewQty)), (.val (.int .i64 v39.1.NewPrice)), (.val (.int .i64 v39.1.Version)), (.val (.bool v39.1.Asked))]))]) (by kernel_rfl) (by kernel_rfl) (by kernel_rfl) rfl (by kernel_rfl) (by kernel_rfl) (by kernel_rfl) (by kernel_rfl)) rfl ?_
                    refine G_op [0] (v := (.val (.int .i64 v39.2))) (E_p (by kernel_rfl)) rfl rfl ?_
                    refine G_nil ?_
                    refine G_then ?_
                    refine G_subW (s0 := ⟨⟨175, [(21, (.val (.int .i64 v39.2))), (20, (.box [1006] 0)), (8, (.val (.bool false))), (4, (.box [1001] 0)), (1, (.val (.int .i64 p_qty))), (2, (.val (.int .i64 p_price)))]⟩, mkH [([1001], (.box [(.val (.int .i64 p_o.Id)), (.val (.int .i64 p_o.Account)), (.val (.int .i64 p_o.Symbol)), (.val (.int .i64 p_o.Side)), (.val (.int .i64 p_o.Qty)), (.val (.int .i64 p_o.Price)), (.val (.int .i64 p_o.Filled)), (.val (.int .i64 p_o.Phase)), (.val (.int .i64 p_o.NewQty)), (.val (.int .i64 p_o.NewPrice)), (.val (.int .i64 p_o.Version)), (.val (.bool p_o.Asked))])), ([1006], (.box [(.val (.int .i64 v39.1.Id)), (.val (.int .i64 v39.1.Account)), (.val (.int .i64 v39.1.Symbol)), (.val (.int .i64 v39.1.Side)), (.val (.int .i64 v39.1.Qty)), (.val (.int .i64 v39.1.Price)), (.val (.int .i64 v39.1.Filled)), (.val (.int .i64 v39.1.Phase)), (.val (.int .i64 v39.1.NewQty)), (.val (.int .i64 v39.1.NewPrice)), (.val (.int .i64 v39.1.Version)), (.val (.bool v39.1.Asked))]))]⟩) (by exact Sub_keep ⟨.refl _, .refl _, .refl _, .refl _, .refl _, .refl _, trivial⟩ ⟨⟨_, (by kernel_rfl), .refl _⟩, ⟨_, (by kernel_rfl), .refl _⟩, trivial⟩ (by kernel_rfl) (by kernel_rfl)) ?_
                    refine G_seq ?_
                    refine G_seq ?_
                    refine G_region ?_
                    refine G_op [0] (v := (.val (.int .i64 p_qty))) (E_p (by kernel_rfl)) rfl rfl ?_
                    refine G_op [0] (v := (.box [1001] 6)) (E_p (by kernel_rfl)) rfl rfl ?_
                    refine G_op [0] (v := (.val (.int .i64 p_o.Filled))) (E_load (by kernel_rfl)) rfl rfl ?_
                    refine G_op [0] (v := (.val (.bool (decide (p_qty ≤ p_o.Filled))))) (E_p (by kernel_rfl)) rfl rfl ?_
                    refine G_nil ?_
                    refine G_then ?_
                    refine G_cond (t := (decide (p_qty ≤ p_o.Filled))) (by kernel_rfl) (fun _ => ?_) (fun _ => ?_)
                    · refine G_seq ?_
                      refine G_region ?_
                      refine G_op [0] (v := (.val (.int .i64 v39.2))) (E_p (by kernel_rfl)) rfl rfl ?_
                      refine G_op [0] (v := (.val (.bool (v39.2 == 8)))) (E_p (by kernel_rfl)) rfl rfl ?_
                      refine G_op [0] (v := (.val (.bool (v39.2 == 8)))) (E_p (by kernel_rfl)) rfl rfl ?_
                      refine G_nil ?_
                      refine G_then ?_
                      refine G_ret ?_
                      refine G_thenR ?_
                      refine G_retR ?_
                      refine q_some fun hA => ?_
                      show outV _ _ = some _
                      kernel_rfl
                    · refine G_skip ?_
                      refine G_then ?_
                      refine G_seq ?_
                      refine G_join (st := fun j40 => ⟨⟨175, [(8, (.val (.bool j40)))]⟩, mkH []⟩) (fun j40 => ?_) (fun r41 hr41 => ?_)
                      · refine G_then ?_
                        refine G_ret ?_
                        refine G_retR ?_
                        refine q_some fun hA => ?_
                        show outV _ _ = some _
                        kernel_rfl
                      · refine G_draw ?_
                        refine X_op (w := (.val (.int .i64 v39.2))) (v := (.val (.int .i64 v39.2))) (E_p (by kernel_rfl)) rfl rfl rfl ?_
                        refine X_op (w := (.val (.bool (v39.2 == 0)))) (v := (.val (.bool (v39.2 == 0)))) (E_p (by kernel_rfl)) rfl rfl rfl ?_
                        refine X_op (w := (.val (.bool (v39.2 == 0)))) (v := (.val (.bool (v39.2 == 0)))) (E_p (by kernel_rfl)) rfl rfl rfl ?_
                        refine q_bif (fun h42 => ?_) (fun h42 => ?_)
                        · refine X_lit (t := 142) (v := true) rfl h42 ?_
                          refine X_op (w := (.may true (.box [1006] 4))) (v := (.box [1006] 4)) (E_p (by kernel_rfl)) rfl rfl rfl ?_
                          refine X_op (w := (.may true (.val (.int .i64 v39.1.Qty)))) (v := (.val (.int .i64 v39.1.Qty))) (E_load (by kernel_rfl)) rfl rfl rfl ?_
                          refine X_op (w := (.may true (.val (.int .i64 p_qty)))) (v := (.val (.int .i64 p_qty))) (E_p (by kernel_rfl)) rfl rfl rfl ?_
                          refine X_op (w := (.may true (.val (.bool (v39.1.Qty == p_qty))))) (v := (.val (.bool (v39.1.Qty == p_qty)))) (E_p (by kernel_rfl)) rfl rfl rfl ?_
                          refine X_op (w := (.val (.bool (v39.1.Qty == p_qty)))) (v := (.val (.bool (v39.1.Qty == p_qty)))) (E_pickT (by kernel_rfl) (by kernel_rfl)) rfl rfl rfl ?_
                          refine X_op (w := (.val (.bool (v39.1.Qty == p_qty)))) (v := (.val (.bool (v39.1.Qty == p_qty)))) (E_p (by kernel_rfl)) rfl rfl rfl ?_
                          refine q_bif (fun h43 => ?_) (fun h43 => ?_)
                          · refine X_lit (t := 148) (v := true) rfl h43 ?_
                            refine X_op (w := (.may true (.box [1006] 5))) (v := (.box [1006] 5)) (E_p (by kernel_rfl)) rfl rfl rfl ?_
                            refine X_op (w := (.may true (.val (.int .i64 v39.1.Price)))) (v := (.val (.int .i64 v39.1.Price))) (E_load (by kernel_rfl)) rfl rfl rfl ?_
                            refine X_op (w := (.may true (.val (.int .i64 p_price)))) (v := (.val (.int .i64 p_price))) (E_p (by kernel_rfl)) rfl rfl rfl ?_
                            refine X_op (w := (.may true (.val (.bool (v39.1.Price == p_price))))) (v := (.val (.bool (v39.1.Price == p_price)))) (E_p (by kernel_rfl)) rfl rfl rfl ?_
                            refine X_op (w := (.val (.bool (v39.1.Price == p_price)))) (v := (.val (.bool (v39.1.Price == p_price)))) (E_pickT (by kernel_rfl) (by kernel_rfl)) rfl rfl rfl ?_
                            refine X_op (w := (.val (.bool (v39.1.Price == p_price)))) (v := (.val (.bool (v39.1.Price == p_price)))) (E_p (by kernel_rfl)) rfl rfl rfl ?_
                            refine q_bif (fun h44 => ?_) (fun h44 => ?_)
                            · refine X_lit (t := 154) (v := true) rfl h44 ?_
                              refine X_op (w := (.may true (.box [1006] 6))) (v := (.box [1006] 6)) (E_p (by kernel_rfl)) rfl rfl rfl ?_
                              refine X_op (w := (.may true (.val (.int .i64 v39.1.Filled)))) (v := (.val (.int .i64 v39.1.Filled))) (E_load (by kernel_rfl)) rfl rfl rfl ?_
                              refine X_op (w := (.may true (.box [1001] 6))) (v := (.box [1001] 6)) (E_p (by kernel_rfl)) rfl rfl rfl ?_
                              refine X_op (w := (.may true (.val (.int .i64 p_o.Filled)))) (v := (.val (.int .i64 p_o.Filled))) (E_load (by kernel_rfl)) rfl rfl rfl ?_
                              refine X_op (w := (.may true (.val (.bool (v39.1.Filled == p_o.Filled))))) (v := (.val (.bool (v39.1.Filled == p_o.Filled)))) (E_p (by kernel_rfl)) rfl rfl rfl ?_
                              refine X_op (w := (.val (.bool (v39.1.Filled == p_o.Filled)))) (v := (.val (.bool (v39.1.Filled == p_o.Filled)))) (E_pickT (by kernel_rfl) (by kernel_rfl)) rfl rfl rfl ?_
                              refine X_op (w := (.val (.bool (v39.1.Filled == p_o.Filled)))) (v := (.val (.bool (v39.1.Filled == p_o.Filled)))) (E_p (by kernel_rfl)) rfl rfl rfl ?_
                              refine q_bif (fun h45 => ?_) (fun h45 => ?_)
                              · refine X_lit (t := 161) (v := true) rfl h45 ?_
                                refine X_op (w := (.may true (.agg [(.val (.int .i64 v39.1.Id)), (.val (.int .i64 v39.1.Account)), (.val (.int .i64 v39.1.Symbol)), (.val (.int .i64 v39.1.Side)), (.val (.int .i64 v39.1.Qty)), (.val (.int .i64 v39.1.Price)), (.val (.int .i64 v39.1.Filled)), (.val (.int .i64 v39.1.Phase)), (.val (.int .i64 v39.1.NewQty)), (.val (.int .i64 v39.1.NewPrice)), (.val (.int .i64 v39.1.Version)), (.val (.bool v39.1.Asked))]))) (v := (.agg [(.val (.int .i64 v39.1.Id)), (.val (.int .i64 v39.1.Account)), (.val (.int .i64 v39.1.Symbol)), (.val (.int .i64 v39.1.Side)), (.val (.int .i64 v39.1.Qty)), (.val (.int .i64 v39.1.Price)), (.val (.int .i64 v39.1.Filled)), (.val (.int .i64 v39.1.Phase)), (.val (.int .i64 v39.1.NewQty)), (.val (.int .i64 v39.1.NewPrice)), (.val (.int .i64 v39.1.Version)), (.val (.bool v39.1.Asked))])) (E_load (by kernel_rfl)) rfl rfl rfl ?_
                                refine q_bind fun v46 hv46 => ?_
                                refine X_op (w := (.val (.int .i64 v46))) (v := (.val (.int .i64 v46))) (E_callX (ds := [.agg (e_OrderT v39.1)]) (ids := []) (r := .int .i64 v46) hc37 (by kernel_rfl) ((hs37 v39.1 _ (by kernel_rfl)).trans (congrArg _ hv46)) (by kernel_rfl)) rfl rfl rfl ?_
                                refine X_op (w := (.may true (.val (.int .i64 p_qty)))) (v := (.val (.int .i64 p_qty))) (E_p (by kernel_rfl)) rfl rfl rfl ?_
                                refine X_op (w := (.may true (.box [1001] 6))) (v := (.box [1001] 6)) (E_p (by kernel_rfl)) rfl rfl rfl ?_
                                refine X_op (w := (.may true (.val (.int .i64 p_o.Filled)))) (v := (.val (.int .i64 p_o.Filled))) (E_load (by kernel_rfl)) rfl rfl rfl ?_
                                refine X_op (w := (.may true (.val (.int .i64 (IntKind.wrap .i64 (p_qty - p_o.Filled)))))) (v := (.val (.int .i64 (IntKind.wrap .i64 (p_qty - p_o.Filled))))) (E_p (by kernel_rfl)) rfl rfl rfl ?_
                                refine X_op (w := (.may true (.val (.bool (v46 == (IntKind.wrap .i64 (p_qty - p_o.Filled))))))) (v := (.val (.bool (v46 == (IntKind.wrap .i64 (p_qty - p_o.Filled)))))) (E_p (by kernel_rfl)) rfl rfl rfl ?_
                                refine X_op (w := (.val (.bool (v46 == (IntKind.wrap .i64 (p_qty - p_o.Filled)))))) (v := (.val (.bool (v46 == (IntKind.wrap .i64 (p_qty - p_o.Filled)))))) (E_pickT (by kernel_rfl) (by kernel_rfl)) rfl rfl rfl ?_
                                refine X_op (w := (.val (.bool (v46 == (IntKind.wrap .i64 (p_qty - p_o.Filled)))))) (v := (.val (.bool (v46 == (IntKind.wrap .i64 (p_qty - p_o.Filled)))))) (E_p (by kernel_rfl)) rfl rfl rfl ?_
                                refine q_bif (fun h47 => ?_) (fun h47 => ?_)
                                · refine X_lit (t := 170) (v := true) rfl h47 ?_
                                  refine X_op (w := (.may true (.box [1006] 8))) (v := (.box [1006] 8)) (E_p (by kernel_rfl)) rfl rfl rfl ?_
                                  refine X_op (w := (.may true (.val (.int .i64 v39.1.NewQty)))) (v := (.val (.int .i64 v39.1.NewQty))) (E_load (by kernel_rfl)) rfl rfl rfl ?_
                                  refine X_op (w := (.may true (.val (.bool (v39.1.NewQty == 0))))) (v := (.val (.bool (v39.1.NewQty == 0)))) (E_p (by kernel_rfl)) rfl rfl rfl ?_
                                  refine X_op (w := (.val (.bool (v39.1.NewQty == 0)))) (v := (.val (.bool (v39.1.NewQty == 0)))) (E_pickT (by kernel_rfl) (by kernel_rfl)) rfl rfl rfl ?_
                                  refine X_op (w := (.val (.bool (v39.1.NewQty == 0)))) (v := (.val (.bool (v39.1.NewQty == 0)))) (E_p (by kernel_rfl)) rfl rfl rfl ?_
                                  refine X_nil (m := [(8, (.val (.bool (v39.1.NewQty == 0))))]) (by exact ⟨rfl, trivial⟩) ?_
                                  exact q_some fun h => (QN_then : QN _ _) _ _ (by exact Sub_keep ⟨.refl _, trivial⟩ trivial (by kernel_rfl) (by kernel_rfl)) h
                                · refine X_lit (t := 170) (v := false) rfl h47 ?_
                                  refine X_off (v := (.box [1006] 8)) (by rfl) (by rfl) (E_p (by kernel_rfl)) rfl rfl ?_
                                  refine X_off (v := (.val (.int .i64 v39.1.NewQty))) (by rfl) (by rfl) (E_load (by kernel_rfl)) rfl rfl ?_
                                  refine X_off (v := (.val (.bool (v39.1.NewQty == 0)))) (by rfl) (by rfl) (E_p (by kernel_rfl)) rfl rfl ?_
                                  refine X_op (w := (.val (.bool false))) (v := (.val (.bool false))) (E_pickF (by kernel_rfl) (by kernel_rfl)) rfl rfl rfl ?_
                                  refine X_op (w := (.val (.bool false))) (v := (.val (.bool false))) (E_p (by kernel_rfl)) rfl rfl rfl ?_
                                  refine X_nil (m := [(8, (.val (.bool false)))]) (by exact ⟨rfl, trivial⟩) ?_
                                  exact q_some fun h => (QN_then : QN _ _) _ _ (by exact Sub_keep ⟨.refl _, trivial⟩ trivial (by kernel_rfl) (by kernel_rfl)) h
                              · refine X_lit (t := 161) (v := false) rfl h45 ?_
                                refine X_off (v := (.agg [(.val (.int .i64 v39.1.Id)), (.val (.int .i64 v39.1.Account)), (.val (.int .i64 v39.1.Symbol)), (.val (.int .i64 v39.1.Side)), (.val (.int .i64 v39.1.Qty)), (.val (.int .i64 v39.1.Price)), (.val (.int .i64 v39.1.Filled)), (.val (.int .i64 v39.1.Phase)), (.val (.int .i64 v39.1.NewQty)), (.val (.int .i64 v39.1.NewPrice)), (.val (.int .i64 v39.1.Version)), (.val (.bool v39.1.Asked))])) (by rfl) (by rfl) (E_load (by kernel_rfl)) rfl rfl ?_
                                refine X_offC (by rfl) rfl rfl ?_
                                refine X_off (v := (.val (.int .i64 p_qty))) (by rfl) (by rfl) (E_p (by kernel_rfl)) rfl rfl ?_
                                refine X_off (v := (.box [1001] 6)) (by rfl) (by rfl) (E_p (by kernel_rfl)) rfl rfl ?_
                                refine X_off (v := (.val (.int .i64 p_o.Filled))) (by rfl) (by rfl) (E_load (by kernel_rfl)) rfl rfl ?_
                                refine X_off (v := (.val (.int .i64 (IntKind.wrap .i64 (p_qty - p_o.Filled))))) (by rfl) (by rfl) (E_p (by kernel_rfl)) rfl rfl ?_
                                refine X_offN (by rfl) (by rfl) (by kernel_rfl) rfl rfl ?_
                                refine X_op (w := (.val (.bool false))) (v := (.val (.bool false))) (E_pickF (by kernel_rfl) (by kernel_rfl)) rfl rfl rfl ?_
                                refine X_op (w := (.val (.bool false))) (v := (.val (.bool false))) (E_p (by kernel_rfl)) rfl rfl rfl ?_
                                refine X_off (v := (.box [1006] 8)) (by rfl) (by rfl) (E_p (by kernel_rfl)) rfl rfl ?_
                                refine X_off (v := (.val (.int .i64 v39.1.NewQty))) (by rfl) (by rfl) (E_load (by kernel_rfl)) rfl rfl ?_
                                refine X_off (v := (.val (.bool (v39.1.NewQty == 0)))) (by rfl) (by rfl) (E_p (by kernel_rfl)) rfl rfl ?_
                                refine X_op (w := (.val (.bool false))) (v := (.val (.bool false))) (E_pickF (by kernel_rfl) (by kernel_rfl)) rfl rfl rfl ?_
                                refine X_op (w := (.val (.bool false))) (v := (.val (.bool false))) (E_p (by kernel_rfl)) rfl rfl rfl ?_
                                refine X_nil (m := [(8, (.val (.bool false)))]) (by exact ⟨rfl, trivial⟩) ?_
                                exact q_some fun h => (QN_then : QN _ _) _ _ (by exact Sub_keep ⟨.refl _, trivial⟩ trivial (by kernel_rfl) (by kernel_rfl)) h
                            · refine X_lit (t := 154) (v := false) rfl h44 ?_
                              refine X_off (v := (.box [1006] 6)) (by rfl) (by rfl) (E_p (by kernel_rfl)) rfl rfl ?_
                              refine X_off (v := (.val (.int .i64 v39.1.Filled))) (by rfl) (by rfl) (E_load (by kernel_rfl)) rfl rfl ?_
                              refine X_off (v := (.box [1001] 6)) (by rfl) (by rfl) (E_p (by kernel_rfl)) rfl rfl ?_
                              refine X_off (v := (.val (.int .i64 p_o.Filled))) (by rfl) (by rfl) (E_load (by kernel_rfl)) rfl rfl ?_
                              refine X_off (v := (.val (.bool (v39.1.Filled == p_o.Filled)))) (by rfl) (by rfl) (E_p (by kernel_rfl)) rfl rfl ?_
                              refine X_op (w := (.val (.bool false))) (v := (.val (.bool false))) (E_pickF (by kernel_rfl) (by kernel_rfl)) rfl rfl rfl ?_
                              refine X_op (w := (.val (.bool false))) (v := (.val (.bool false))) (E_p (by kernel_rfl)) rfl rfl rfl ?_
                              refine X_off (v := (.agg [(.val (.int .i64 v39.1.Id)), (.val (.int .i64 v39.1.Account)), (.val (.int .i64 v39.1.Symbol)), (.val (.int .i64 v39.1.Side)), (.val (.int .i64 v39.1.Qty)), (.val (.int .i64 v39.1.Price)), (.val (.int .i64 v39.1.Filled)), (.val (.int .i64 v39.1.Phase)), (.val (.int .i64 v39.1.NewQty)), (.val (.int .i64 v39.1.NewPrice)), (.val (.int .i64 v39.1.Version)), (.val (.bool v39.1.Asked))])) (by rfl) (by rfl) (E_load (by kernel_rfl)) rfl rfl ?_
                              refine X_offC (by rfl) rfl rfl ?_
                              refine X_off (v := (.val (.int .i64 p_qty))) (by rfl) (by rfl) (E_p (by kernel_rfl)) rfl rfl ?_
                              refine X_off (v := (.box [1001] 6)) (by rfl) (by rfl) (E_p (by kernel_rfl)) rfl rfl ?_
                              refine X_off (v := (.val (.int .i64 p_o.Filled))) (by rfl) (by rfl) (E_load (by kernel_rfl)) rfl rfl ?_
                              refine X_off (v := (.val (.int .i64 (IntKind.wrap .i64 (p_qty - p_o.Filled))))) (by rfl) (by rfl) (E_p (by kernel_rfl)) rfl rfl ?_
                              refine X_offN (by rfl) (by rfl) (by kernel_rfl) rfl rfl ?_
                              refine X_op (w := (.val (.bool false))) (v := (.val (.bool false))) (E_pickF (by kernel_rfl) (by kernel_rfl)) rfl rfl rfl ?_
                              refine X_op (w := (.val (.bool false))) (v := (.val (.bool false))) (E_p (by kernel_rfl)) rfl rfl rfl ?_
                              refine X_off (v := (.box [1006] 8)) (by rfl) (by rfl) (E_p (by kernel_rfl)) rfl rfl ?_
                              refine X_off (v := (.val (.int .i64 v39.1.NewQty))) (by rfl) (by rfl) (E_load (by kernel_rfl)) rfl rfl ?_
                              refine X_off (v := (.val (.bool (v39.1.NewQty == 0)))) (by rfl) (by rfl) (E_p (by kernel_rfl)) rfl rfl ?_
                              refine X_op (w := (.val (.bool false))) (v := (.val (.bool false))) (E_pickF (by kernel_rfl) (by kernel_rfl)) rfl rfl rfl ?_
                              refine X_op (w := (.val (.bool false))) (v := (.val (.bool false))) (E_p (by kernel_rfl)) rfl rfl rfl ?_
                              refine X_nil (m := [(8, (.val (.bool false)))]) (by exact ⟨rfl, trivial⟩) ?_
                              exact q_some fun h => (QN_then : QN _ _) _ _ (by exact Sub_keep ⟨.refl _, trivial⟩ trivial (by kernel_rfl) (by kernel_rfl)) h
                          · refine X_lit (t := 148) (v := false) rfl h43 ?_
                            refine X_off (v := (.box [1006] 5)) (by rfl) (by rfl) (E_p (by kernel_rfl)) rfl rfl ?_
                            refine X_off (v := (.val (.int .i64 v39.1.Price))) (by rfl) (by rfl) (E_load (by kernel_rfl)) rfl rfl ?_
                            refine X_off (v := (.val (.int .i64 p_price))) (by rfl) (by rfl) (E_p (by kernel_rfl)) rfl rfl ?_
                            refine X_off (v := (.val (.bool (v39.1.Price == p_price)))) (by rfl) (by rfl) (E_p (by kernel_rfl)) rfl rfl ?_
                            refine X_op (w := (.val (.bool false))) (v := (.val (.bool false))) (E_pickF (by kernel_rfl) (by kernel_rfl)) rfl rfl rfl ?_
                            refine X_op (w := (.val (.bool false))) (v := (.val (.bool false))) (E_p (by kernel_rfl)) rfl rfl rfl ?_
                            refine X_off (v := (.box [1006] 6)) (by rfl) (by rfl) (E_p (by kernel_rfl)) rfl rfl ?_
                            refine X_off (v := (.val (.int .i64 v39.1.Filled))) (by rfl) (by rfl) (E_load (by kernel_rfl)) rfl rfl ?_
                            refine X_off (v := (.box [1001] 6)) (by rfl) (by rfl) (E_p (by kernel_rfl)) rfl rfl ?_
                            refine X_off (v := (.val (.int .i64 p_o.Filled))) (by rfl) (by rfl) (E_load (by kernel_rfl)) rfl rfl ?_
                            refine X_off (v := (.val (.bool (v39.1.Filled == p_o.Filled)))) (by rfl) (by rfl) (E_p (by kernel_rfl)) rfl rfl ?_
                            refine X_op (w := (.val (.bool false))) (v := (.val (.bool false))) (E_pickF (by kernel_rfl) (by kernel_rfl)) rfl rfl rfl ?_
                            refine X_op (w := (.val (.bool false))) (v := (.val (.bool false))) (E_p (by kernel_rfl)) rfl rfl rfl ?_
                            refine X_off (v := (.agg [(.val (.int .i64 v39.1.Id)), (.val (.int .i64 v39.1.Account)), (.val (.int .i64 v39.1.Symbol)), (.val (.int .i64 v39.1.Side)), (.val (.int .i64 v39.1.Qty)), (.val (.int .i64 v39.1.Price)), (.val (.int .i64 v39.1.Filled)), (.val (.int .i64 v39.1.Phase)), (.val (.int .i64 v39.1.NewQty)), (.val (.int .i64 v39.1.NewPrice)), (.val (.int .i64 v39.1.Version)), (.val (.bool v39.1.Asked))])) (by rfl) (by rfl) (E_load (by kernel_rfl)) rfl rfl ?_
                            refine X_offC (by rfl) rfl rfl ?_
                            refine X_off (v := (.val (.int .i64 p_qty))) (by rfl) (by rfl) (E_p (by kernel_rfl)) rfl rfl ?_
                            refine X_off (v := (.box [1001] 6)) (by rfl) (by rfl) (E_p (by kernel_rfl)) rfl rfl ?_
                            refine X_off (v := (.val (.int .i64 p_o.Filled))) (by rfl) (by rfl) (E_load (by kernel_rfl)) rfl rfl ?_
                            refine X_off (v := (.val (.int .i64 (IntKind.wrap .i64 (p_qty - p_o.Filled))))) (by rfl) (by rfl) (E_p (by kernel_rfl)) rfl rfl ?_
                            refine X_offN (by rfl) (by rfl) (by kernel_rfl) rfl rfl ?_
                            refine X_op (w := (.val (.bool false))) (v := (.val (.bool false))) (E_pickF (by kernel_rfl) (by kernel_rfl)) rfl rfl rfl ?_
                            refine X_op (w := (.val (.bool false))) (v := (.val (.bool false))) (E_p (by kernel_rfl)) rfl rfl rfl ?_
                            refine X_off (v := (.box [1006] 8)) (by rfl) (by rfl) (E_p (by kernel_rfl)) rfl rfl ?_
                            refine X_off (v := (.val (.int .i64 v39.1.NewQty))) (by rfl) (by rfl) (E_load (by kernel_rfl)) rfl rfl ?_
                            refine X_off (v := (.val (.bool (v39.1.NewQty == 0)))) (by rfl) (by rfl) (E_p (by kernel_rfl)) rfl rfl ?_
                            refine X_op (w := (.val (.bool false))) (v := (.val (.bool false))) (E_pickF (by kernel_rfl) (by kernel_rfl)) rfl rfl rfl ?_
                            refine X_op (w := (.val (.bool false))) (v := (.val (.bool false))) (E_p (by kernel_rfl)) rfl rfl rfl ?_
                            refine X_nil (m := [(8, (.val (.bool false)))]) (by exact ⟨rfl, trivial⟩) ?_
                            exact q_some fun h => (QN_then : QN _ _) _ _ (by exact Sub_keep ⟨.refl _, trivial⟩ trivial (by kernel_rfl) (by kernel_rfl)) h
                        · refine X_lit (t := 142) (v := false) rfl h42 ?_
                          refine X_off (v := (.box [1006] 4)) (by rfl) (by rfl) (E_p (by kernel_rfl)) rfl rfl ?_
                          refine X_off (v := (.val (.int .i64 v39.1.Qty))) (by rfl) (by rfl) (E_load (by kernel_rfl)) rfl rfl ?_
                          refine X_off (v := (.val (.int .i64 p_qty))) (by rfl) (by rfl) (E_p (by kernel_rfl)) rfl rfl ?_
                          refine X_off (v := (.val (.bool (v39.1.Qty == p_qty)))) (by rfl) (by rfl) (E_p (by kernel_rfl)) rfl rfl ?_
                          refine X_op (w := (.val (.bool false))) (v := (.val (.bool false))) (E_pickF (by kernel_rfl) (by kernel_rfl)) rfl rfl rfl ?_
                          refine X_op (w := (.val (.bool false))) (v := (.val (.bool false))) (E_p (by kernel_rfl)) rfl rfl rfl ?_
                          refine X_off (v := (.box [1006] 5)) (by rfl) (by rfl) (E_p (by kernel_rfl)) rfl rfl ?_
                          refine X_off (v := (.val (.int .i64 v39.1.Price))) (by rfl) (by rfl) (E_load (by kernel_rfl)) rfl rfl ?_
                          refine X_off (v := (.val (.int .i64 p_price))) (by rfl) (by rfl) (E_p (by kernel_rfl)) rfl rfl ?_
                          refine X_off (v := (.val (.bool (v39.1.Price == p_price)))) (by rfl) (by rfl) (E_p (by kernel_rfl)) rfl rfl ?_
                          refine X_op (w := (.val (.bool false))) (v := (.val (.bool false))) (E_pickF (by kernel_rfl) (by kernel_rfl)) rfl rfl rfl ?_
                          refine X_op (w := (.val (.bool false))) (v := (.val (.bool false))) (E_p (by kernel_rfl)) rfl rfl rfl ?_
                          refine X_off (v := (.box [1006] 6)) (by rfl) (by rfl) (E_p (by kernel_rfl)) rfl rfl ?_
                          refine X_off (v := (.val (.int .i64 v39.1.Filled))) (by rfl) (by rfl) (E_load (by kernel_rfl)) rfl rfl ?_
                          refine X_off (v := (.box [1001] 6)) (by rfl) (by rfl) (E_p (by kernel_rfl)) rfl rfl ?_
                          refine X_off (v := (.val (.int .i64 p_o.Filled))) (by rfl) (by rfl) (E_load (by kernel_rfl)) rfl rfl ?_
                          refine X_off (v := (.val (.bool (v39.1.Filled == p_o.Filled)))) (by rfl) (by rfl) (E_p (by kernel_rfl)) rfl rfl ?_
                          refine X_op (w := (.val (.bool false))) (v := (.val (.bool false))) (E_pickF (by kernel_rfl) (by kernel_rfl)) rfl rfl rfl ?_
                          refine X_op (w := (.val (.bool false))) (v := (.val (.bool false))) (E_p (by kernel_rfl)) rfl rfl rfl ?_
                          refine X_off (v := (.agg [(.val (.int .i64 v39.1.Id)), (.val (.int .i64 v39.1.Account)), (.val (.int .i64 v39.1.Symbol)), (.val (.int .i64 v39.1.Side)), (.val (.int .i64 v39.1.Qty)), (.val (.int .i64 v39.1.Price)), (.val (.int .i64 v39.1.Filled)), (.val (.int .i64 v39.1.Phase)), (.val (.int .i64 v39.1.NewQty)), (.val (.int .i64 v39.1.NewPrice)), (.val (.int .i64 v39.1.Version)), (.val (.bool v39.1.Asked))])) (by rfl) (by rfl) (E_load (by kernel_rfl)) rfl rfl ?_
                          refine X_offC (by rfl) rfl rfl ?_
                          refine X_off (v := (.val (.int .i64 p_qty))) (by rfl) (by rfl) (E_p (by kernel_rfl)) rfl rfl ?_
                          refine X_off (v := (.box [1001] 6)) (by rfl) (by rfl) (E_p (by kernel_rfl)) rfl rfl ?_
                          refine X_off (v := (.val (.int .i64 p_o.Filled))) (by rfl) (by rfl) (E_load (by kernel_rfl)) rfl rfl ?_
                          refine X_off (v := (.val (.int .i64 (IntKind.wrap .i64 (p_qty - p_o.Filled))))) (by rfl) (by rfl) (E_p (by kernel_rfl)) rfl rfl ?_
                          refine X_offN (by rfl) (by rfl) (by kernel_rfl) rfl rfl ?_
                          refine X_op (w := (.val (.bool false))) (v := (.val (.bool false))) (E_pickF (by kernel_rfl) (by kernel_rfl)) rfl rfl rfl ?_
                          refine X_op (w := (.val (.bool false))) (v := (.val (.bool false))) (E_p (by kernel_rfl)) rfl rfl rfl ?_
                          refine X_off (v := (.box [1006] 8)) (by rfl) (by rfl) (E_p (by kernel_rfl)) rfl rfl ?_
                          refine X_off (v := (.val (.int .i64 v39.1.NewQty))) (by rfl) (by rfl) (E_load (by kernel_rfl)) rfl rfl ?_
                          refine X_off (v := (.val (.bool (v39.1.NewQty == 0)))) (by rfl) (by rfl) (E_p (by kernel_rfl)) rfl rfl ?_
                          refine X_op (w := (.val (.bool false))) (v := (.val (.bool false))) (E_pickF (by kernel_rfl) (by kernel_rfl)) rfl rfl rfl ?_
                          refine X_op (w := (.val (.bool false))) (v := (.val (.bool false))) (E_p (by kernel_rfl)) rfl rfl rfl ?_
                          refine X_nil (m := [(8, (.val (.bool false)))]) (by exact ⟨rfl, trivial⟩) ?_
                          exact q_some fun h => (QN_then : QN _ _) _ _ (by exact Sub_keep ⟨.refl _, trivial⟩ trivial (by kernel_rfl) (by kernel_rfl)) h
                · refine q_two (v35.2 != 0) (fun h36 => ?_) (fun h36 => ?_)
                  · refine G_subR (Sub_lit (t := 118) (v := true) rfl h36) ?_
                    refine G_off rfl rfl ?_
                    refine G_off rfl rfl ?_
                    refine G_off rfl rfl ?_
                    refine G_op [0] (v := (.val (.bool true))) (E_p (by kernel_rfl)) rfl rfl ?_
                    exact q_some fun h => RP_sub (by exact Sub_keep ⟨(Wk_or1 h36), .refl _, .refl _, .refl _, .refl _, .refl _, .refl _, trivial⟩ ⟨⟨_, (by kernel_rfl), .refl _⟩, ⟨_, (by kernel_rfl), .refl _⟩, trivial⟩ (by kernel_rfl) (by kernel_rfl)) h
                  · refine G_subR (Sub_lit (t := 118) (v := false) rfl h36) ?_
                    refine G_op [0] (v := (.agg [(.val (.int .i64 v35.1.Id)), (.val (.int .i64 v35.1.Account)), (.val (.int .i64 v35.1.Symbol)), (.val (.int .i64 v35.1.Side)), (.val (.int .i64 v35.1.Qty)), (.val (.int .i64 v35.1.Price)), (.val (.int .i64 v35.1.Filled)), (.val (.int .i64 v35.1.Phase)), (.val (.int .i64 v35.1.NewQty)), (.val (.int .i64 v35.1.NewPrice)), (.val (.int .i64 v35.1.Version)), (.val (.bool v35.1.Asked))])) (E_load (by kernel_rfl)) rfl rfl ?_
                    refine G_op [0] (v := (.agg [(.val (.int .i64 p_o.Id)), (.val (.int .i64 p_o.Account)), (.val (.int .i64 p_o.Symbol)), (.val (.int .i64 p_o.Side)), (.val (.int .i64 p_o.Qty)), (.val (.int .i64 p_o.Price)), (.val (.int .i64 p_o.Filled)), (.val (.int .i64 p_o.Phase)), (.val (.int .i64 p_o.NewQty)), (.val (.int .i64 p_o.NewPrice)), (.val (.int .i64 v9.1.Version)), (.val (.bool p_o.Asked))])) (E_load (by kernel_rfl)) rfl rfl ?_
                    refine G_op [0] (v := (.val (.bool (!((v35.1.Id == p_o.Id) && ((v35.1.Account == p_o.Account) && ((v35.1.Symbol == p_o.Symbol) && ((v35.1.Side == p_o.Side) && ((v35.1.Qty == p_o.Qty) && ((v35.1.Price == p_o.Price) && ((v35.1.Filled == p_o.Filled) && ((v35.1.Phase == p_o.Phase) && ((v35.1.NewQty == p_o.NewQty) && ((v35.1.NewPrice == p_o.NewPrice) && ((v35.1.Version == v9.1.Version) && ((v35.1.Asked == p_o.Asked) && true)))))))))))))))) (E_p (by kernel_rfl)) rfl rfl ?_
                    refine G_op [0] (v := (.val (.bool (!((v35.1.Id == p_o.Id) && ((v35.1.Account == p_o.Account) && ((v35.1.Symbol == p_o.Symbol) && ((v35.1.Side == p_o.Side) && ((v35.1.Qty == p_o.Qty) && ((v35.1.Price == p_o.Price) && ((v35.1.Filled == p_o.Filled) && ((v35.1.Phase == p_o.Phase) && ((v35.1.NewQty == p_o.NewQty) && ((v35.1.NewPrice == p_o.NewPrice) && ((v35.1.Version == v9.1.Version) && ((v35.1.Asked == p_o.Asked) && true)))))))))))))))) (E_p (by kernel_rfl)) rfl rfl ?_
                    exact q_some fun h => RP_sub (by exact Sub_keep ⟨(Wk_or0 h36), .refl _, .refl _, .refl _, .refl _, .refl _, .refl _, trivial⟩ ⟨⟨_, (by kernel_rfl), .refl _⟩, ⟨_, (by kernel_rfl), .refl _⟩, trivial⟩ (by kernel_rfl) (by kernel_rfl)) h
            · refine G_draw ?_
              refine X_op (w := (.agg [(.val (.int .i64 v9.1.Id)), (.val (.int .i64 v9.1.Account)), (.val (.int .i64 v9.1.Symbol)), (.val (.int .i64 v9.1.Side)), (.val (.int .i64 v9.1.Qty)), (.val (.int .i64 v9.1.Price)), (.val (.int .i64 v9.1.Filled)), (.val (.int .i64 v9.1.Phase)), (.val (.int .i64 v9.1.NewQty)), (.val (.int .i64 v9.1.NewPrice)), (.val (.int .i64 v9.1.Version)), (.val (.bool v9.1.Asked))])) (v := (.agg [(.val (.int .i64 v9.1.Id)), (.val (.int .i64 v9.1.Account)), (.val (.int .i64 v9.1.Symbol)), (.val (.int .i64 v9.1.Side)), (.val (.int .i64 v9.1.Qty)), (.val (.int .i64 v9.1.Price)), (.val (.int .i64 v9.1.Filled)), (.val (.int .i64 v9.1.Phase)), (.val (.int .i64 v9.1.NewQty)), (.val (.int .i64 v9.1.NewPrice)), (.val (.int .i64 v9.1.Version)), (.val (.bool v9.1.Asked))])) (E_load (by kernel_rfl)) rfl rfl rfl ?_
              refine q_bind fun v15 hv15 => ?_
              refine X_op (w := (.val (.bool v15))) (v := (.val (.bool v15))) (E_callX (ds := [.agg (e_OrderT v9.1)]) (ids := []) (r := .bool v15) hc41 (by kernel_rfl) ((hs41 v9.1 _ (by kernel_rfl)).trans (congrArg _ hv15)) (by kernel_rfl)) rfl rfl rfl ?_
              refine X_op (w := (.val (.bool (!v15)))) (v := (.val (.bool (!v15)))) (E_p (by kernel_rfl)) rfl rfl rfl ?_
              refine X_op (w := (.val (.bool (!v15)))) (v := (.val (.bool (!v15)))) (E_p (by kernel_rfl)) rfl rfl rfl ?_
              refine q_bif (fun h16 => ?_) (fun h16 => ?_)
              · refine X_lit (t := 67) (v := true) rfl h16 ?_
                refine X_off (v := (.agg [(.val (.int .i64 v9.1.Id)), (.val (.int .i64 v9.1.Account)), (.val (.int .i64 v9.1.Symbol)), (.val (.int .i64 v9.1.Side)), (.val (.int .i64 v9.1.Qty)), (.val (.int .i64 v9.1.Price)), (.val (.int .i64 v9.1.Filled)), (.val (.int .i64 v9.1.Phase)), (.val (.int .i64 v9.1.NewQty)), (.val (.int .i64 v9.1.NewPrice)), (.val (.int .i64 v9.1.Version)), (.val (.bool v9.1.Asked))])) (by rfl) (by rfl) (E_load (by kernel_rfl)) rfl rfl ?_
                refine X_offC (by rfl) rfl rfl ?_
                refine X_off (v := (.agg [(.val (.int .i64 p_o.Id)), (.val (.int .i64 p_o.Account)), (.val (.int .i64 p_o.Symbol)), (.val (.int .i64 p_o.Side)), (.val (.int .i64 p_o.Qty)), (.val (.int .i64 p_o.Price)), (.val (.int .i64 p_o.Filled)), (.val (.int .i64 p_o.Phase)), (.val (.int .i64 p_o.NewQty)), (.val (.int .i64 p_o.NewPrice)), (.val (.int .i64 p_o.Version)), (.val (.bool p_o.Asked))])) (by rfl) (by rfl) (E_load (by kernel_rfl)) rfl rfl ?_
                refine X_offC (by rfl) rfl rfl ?_
                refine X_offN (by rfl) (by rfl) (by kernel_rfl) rfl rfl ?_
                refine X_op (w := (.val (.bool true))) (v := (.val (.bool true))) (E_pickT (by kernel_rfl) (by kernel_rfl)) rfl rfl rfl ?_
                refine X_op (w := (.val (.bool true))) (v := (.val (.bool true))) (E_p (by kernel_rfl)) rfl rfl rfl ?_
                refine X_off (v := (.val (.int .i64 v10.2))) (by rfl) (by rfl) (E_p (by kernel_rfl)) rfl rfl ?_
                refine X_off (v := (.val (.bool (v10.2 == 0)))) (by rfl) (by rfl) (E_p (by kernel_rfl)) rfl rfl ?_
                refine X_off (v := (.val (.bool (v10.2 == 0)))) (by rfl) (by rfl) (E_p (by kernel_rfl)) rfl rfl ?_
                refine X_off (v := (.val (.int .i64 v11.2))) (by rfl) (by rfl) (E_p (by kernel_rfl)) rfl rfl ?_
                refine X_off (v := (.val (.bool (v11.2 == 0)))) (by rfl) (by rfl) (E_p (by kernel_rfl)) rfl rfl ?_
                refine X_off (v := (.val (.bool (bif (v10.2 == 0) then (v11.2 == 0) else false)))) (by rfl) (by rfl) (E_p (by kernel_rfl)) rfl rfl ?_
                refine X_off (v := (.val (.bool (bif (v10.2 == 0) then (v11.2 == 0) else false)))) (by rfl) (by rfl) (E_p (by kernel_rfl)) rfl rfl ?_
                refine X_off (v := (.val (.int .i64 v11.1))) (by rfl) (by rfl) (E_p (by kernel_rfl)) rfl rfl ?_
                refine X_off (v := (.val (.int .i64 v10.1))) (by rfl) (by rfl) (E_p (by kernel_rfl)) rfl rfl ?_
                refine X_off (v := (.val (.bool (decide (v11.1 < v10.1))))) (by rfl) (by rfl) (E_p (by kernel_rfl)) rfl rfl ?_
                refine X_off (v := (.val (.bool (bif (bif (v10.2 == 0) then (v11.2 == 0) else false) then (decide (v11.1 < v10.1)) else false)))) (by rfl) (by rfl) (E_p (by kernel_rfl)) rfl rfl ?_
                refine X_op (w := (.val (.bool true))) (v := (.val (.bool true))) (E_pickT (by kernel_rfl) (by kernel_rfl)) rfl rfl rfl ?_
                refine X_op (w := (.val (.bool true))) (v := (.val (.bool true))) (E_p (by kernel_rfl)) rfl rfl rfl ?_
                refine X_off (v := (.val (.int .i64 v10.2))) (by rfl) (by rfl) (E_p (by kernel_rfl)) rfl rfl ?_
                refine X_off (v := (.val (.bool (v10.2 != 0)))) (by rfl) (by rfl) (E_p (by kernel_rfl)) rfl rfl ?_
                refine X_off (v := (.val (.bool (v10.2 != 0)))) (by rfl) (by rfl) (E_p (by kernel_rfl)) rfl rfl ?_
                refine X_off (v := (.val (.int .i64 v11.2))) (by rfl) (by rfl) (E_p (by kernel_rfl)) rfl rfl ?_
                refine X_off (v := (.val (.bool (v11.2 == 0)))) (by rfl) (by rfl) (E_p (by kernel_rfl)) rfl rfl ?_
                refine X_off (v := (.val (.bool (bif (v10.2 != 0) then (v11.2 == 0) else false)))) (by rfl) (by rfl) (E_p (by kernel_rfl)) rfl rfl ?_
                refine X_op (w := (.val (.bool true))) (v := (.val (.bool true))) (E_pickT (by kernel_rfl) (by kernel_rfl)) rfl rfl rfl ?_
                refine X_op (w := (.val (.bool true))) (v := (.val (.bool true))) (E_p (by kernel_rfl)) rfl rfl rfl ?_
                refine X_off (v := (.val (.int .i64 v12.2))) (by rfl) (by rfl) (E_p (by kernel_rfl)) rfl rfl ?_
                refine X_off (v := (.val (.bool (v12.2 == 0)))) (by rfl) (by rfl) (E_p (by kernel_rfl)) rfl rfl ?_
                refine X_op (w := (.val (.bool true))) (v := (.val (.bool true))) (E_pickT (by kernel_rfl) (by kernel_rfl)) rfl rfl rfl ?_
                refine X_op (w := (.val (.bool true))) (v := (.val (.bool true))) (E_p (by kernel_rfl)) rfl rfl rfl ?_
                refine X_off (v := (.box [1001] 11)) (by rfl) (by rfl) (E_p (by kernel_rfl)) rfl rfl ?_
                refine X_off (v := (.val (.bool p_o.Asked))) (by rfl) (by rfl) (E_load (by kernel_rfl)) rfl rfl ?_
                refine X_op (w := (.val (.bool true))) (v := (.val (.bool true))) (E_pickT (by kernel_rfl) (by kernel_rfl)) rfl rfl rfl ?_
                refine X_nil (m := [(102, (.val (.bool true))), (9, (.box [1002] 0)), (8, (.val (.bool false))), (4, (.box [1001] 0)), (1, (.val (.int .i64 p_qty))), (2, (.val (.int .i64 p_price))), (3, (.val (.int .i64 p_seq)))]) (by exact ⟨rfl, rfl, rfl, rfl, rfl, rfl, rfl, trivial⟩) ?_
                exact q_some fun h => (QN_then : QN _ _) _ _ (by exact Sub_keep ⟨.refl _, .refl _, .refl _, .refl _, .refl _, .refl _, .refl _, trivial⟩ ⟨⟨_, (by kernel_rfl), .refl _⟩, ⟨_, (by kernel_rfl), .refl _⟩, trivial⟩ (by kernel_rfl) (by kernel_rfl)) h
              · refine X_lit (t := 67) (v := false) rfl h16 ?_
                refine X_op (w := (.may true (.agg [(.val (.int .i64 v9.1.Id)), (.val (.int .i64 v9.1.Account)), (.val (.int .i64 v9.1.Symbol)), (.val (.int .i64 v9.1.Side)), (.val (.int .i64 v9.1.Qty)), (.val (.int .i64 v9.1.Price)), (.val (.int .i64 v9.1.Filled)), (.val (.int .i64 v9.1.Phase)), (.val (.int .i64 v9.1.NewQty)), (.val (.int .i64 v9.1.NewPrice)), (.val (.int .i64 v9.1.Version)), (.val (.bool v9.1.Asked))]))) (v := (.agg [(.val (.int .i64 v9.1.Id)), (.val (.int .i64 v9.1.Account)), (.val (.int .i64 v9.1.Symbol)), (.val (.int .i64 v9.1.Side)), (.val (.int .i64 v9.1.Qty)), (.val (.int .i64 v9.1.Price)), (.val (.int .i64 v9.1.Filled)), (.val (.int .i64 v9.1.Phase)), (.val (.int .i64 v9.1.NewQty)), (.val (.int .i64 v9.1.NewPrice)), (.val (.int .i64 v9.1.Version)), (.val (.bool v9.1.Asked))])) (E_load (by kernel_rfl)) rfl rfl rfl ?_
                refine q_bind fun v17 hv17 => ?_
                refine X_op (w := (.val (.int .i64 v17))) (v := (.val (.int .i64 v17))) (E_callX (ds := [.agg (e_OrderT v9.1)]) (ids := []) (r := .int .i64 v17) hc37 (by kernel_rfl) ((hs37 v9.1 _ (by kernel_rfl)).trans (congrArg _ hv17)) (by kernel_rfl)) rfl rfl rfl ?_
                refine X_op (w := (.may true (.agg [(.val (.int .i64 p_o.Id)), (.val (.int .i64 p_o.Account)), (.val (.int .i64 p_o.Symbol)), (.val (.int .i64 p_o.Side)), (.val (.int .i64 p_o.Qty)), (.val (.int .i64 p_o.Price)), (.val (.int .i64 p_o.Filled)), (.val (.int .i64 p_o.Phase)), (.val (.int .i64 p_o.NewQty)), (.val (.int .i64 p_o.NewPrice)), (.val (.int .i64 p_o.Version)), (.val (.bool p_o.Asked))]))) (v := (.agg [(.val (.int .i64 p_o.Id)), (.val (.int .i64 p_o.Account)), (.val (.int .i64 p_o.Symbol)), (.val (.int .i64 p_o.Side)), (.val (.int .i64 p_o.Qty)), (.val (.int .i64 p_o.Price)), (.val (.int .i64 p_o.Filled)), (.val (.int .i64 p_o.Phase)), (.val (.int .i64 p_o.NewQty)), (.val (.int .i64 p_o.NewPrice)), (.val (.int .i64 p_o.Version)), (.val (.bool p_o.Asked))])) (E_load (by kernel_rfl)) rfl rfl rfl ?_
                refine q_bind fun v18 hv18 => ?_
                refine X_op (w := (.val (.int .i64 v18))) (v := (.val (.int .i64 v18))) (E_callX (ds := [.agg (e_OrderT p_o)]) (ids := []) (r := .int .i64 v18) hc37 (by kernel_rfl) ((hs37 p_o _ (by kernel_rfl)).trans (congrArg _ hv18)) (by kernel_rfl)) rfl rfl rfl ?_
                refine X_op (w := (.may true (.val (.bool (decide (v17 < v18)))))) (v := (.val (.bool (decide (v17 < v18))))) (E_p (by kernel_rfl)) rfl rfl rfl ?_
                refine X_op (w := (.val (.bool (decide (v17 < v18))))) (v := (.val (.bool (decide (v17 < v18))))) (E_pickF (by kernel_rfl) (by kernel_rfl)) rfl rfl rfl ?_
                refine X_op (w := (.val (.bool (decide (v17 < v18))))) (v := (.val (.bool (decide (v17 < v18))))) (E_p (by kernel_rfl)) rfl rfl rfl ?_
                refine q_bif (fun h19 => ?_) (fun h19 => ?_)
                · refine X_lit (t := 74) (v := true) rfl h19 ?_
                  refine X_off (v := (.val (.int .i64 v10.2))) (by rfl) (by rfl) (E_p (by kernel_rfl)) rfl rfl ?_
                  refine X_off (v := (.val (.bool (v10.2 == 0)))) (by rfl) (by rfl) (E_p (by kernel_rfl)) rfl rfl ?_
                  refine X_off (v := (.val (.bool (v10.2 == 0)))) (by rfl) (by rfl) (E_p (by kernel_rfl)) rfl rfl ?_
                  refine X_off (v := (.val (.int .i64 v11.2))) (by rfl) (by rfl) (E_p (by kernel_rfl)) rfl rfl ?_
                  refine X_off (v := (.val (.bool (v11.2 == 0)))) (by rfl) (by rfl) (E_p (by kernel_rfl)) rfl rfl ?_
                  refine X_off (v := (.val (.bool (bif (v10.2 == 0) then (v11.2 == 0) else false)))) (by rfl) (by rfl) (E_p (by kernel_rfl)) rfl rfl ?_
                  refine X_off (v := (.val (.bool (bif (v10.2 == 0) then (v11.2 == 0) else false)))) (by rfl) (by rfl) (E_p (by kernel_rfl)) rfl rfl ?_
                  refine X_off (v := (.val (.int .i64 v11.1))) (by rfl) (by rfl) (E_p (by kernel_rfl)) rfl rfl ?_
                  refine X_off (v := (.val (.int .i64 v10.1))) (by rfl) (by rfl) (E_p (by kernel_rfl)) rfl rfl ?_
                  refine X_off (v := (.val (.bool (decide (v11.1 < v10.1))))) (by rfl) (by rfl) (E_p (by kernel_rfl)) rfl rfl ?_
                  refine X_off (v := (.val (.bool (bif (bif (v10.2 == 0) then (v11.2 == 0) else false) then (decide (v11.1 < v10.1)) else false)))) (by rfl) (by rfl) (E_p (by kernel_rfl)) rfl rfl ?_
                  refine X_op (w := (.val (.bool true))) (v := (.val (.bool true))) (E_pickT (by kernel_rfl) (by kernel_rfl)) rfl rfl rfl ?_
                  refine X_op (w := (.val (.bool true))) (v := (.val (.bool true))) (E_p (by kernel_rfl)) rfl rfl rfl ?_
                  refine X_off (v := (.val (.int .i64 v10.2))) (by rfl) (by rfl) (E_p (by kernel_rfl)) rfl rfl ?_
                  refine X_off (v := (.val (.bool (v10.2 != 0)))) (by rfl) (by rfl) (E_p (by kernel_rfl)) rfl rfl ?_
                  refine X_off (v := (.val (.bool (v10.2 != 0)))) (by rfl) (by rfl) (E_p (by kernel_rfl)) rfl rfl ?_
                  refine X_off (v := (.val (.int .i64 v11.2))) (by rfl) (by rfl) (E_p (by kernel_rfl)) rfl rfl ?_
                  refine X_off (v := (.val (.bool (v11.2 == 0)))) (by rfl) (by rfl) (E_p (by kernel_rfl)) rfl rfl ?_
                  refine X_off (v := (.val (.bool (bif (v10.2 != 0) then (v11.2 == 0) else false)))) (by rfl) (by rfl) (E_p (by kernel_rfl)) rfl rfl ?_
                  refine X_op (w := (.val (.bool true))) (v := (.val (.bool true))) (E_pickT (by kernel_rfl) (by kernel_rfl)) rfl rfl rfl ?_
                  refine X_op (w := (.val (.bool true))) (v := (.val (.bool true))) (E_p (by kernel_rfl)) rfl rfl rfl ?_
                  refine X_off (v := (.val (.int .i64 v12.2))) (by rfl) (by rfl) (E_p (by kernel_rfl)) rfl rfl ?_
                  refine X_off (v := (.val (.bool (v12.2 == 0)))) (by rfl) (by rfl) (E_p (by kernel_rfl)) rfl rfl ?_
                  refine X_op (w := (.val (.bool true))) (v := (.val (.bool true))) (E_pickT (by kernel_rfl) (by kernel_rfl)) rfl rfl rfl ?_
                  refine X_op (w := (.val (.bool true))) (v := (.val (.bool true))) (E_p (by kernel_rfl)) rfl rfl rfl ?_
                  refine X_off (v := (.box [1001] 11)) (by rfl) (by rfl) (E_p (by kernel_rfl)) rfl rfl ?_
                  refine X_off (v := (.val (.bool p_o.Asked))) (by rfl) (by rfl) (E_load (by kernel_rfl)) rfl rfl ?_
                  refine X_op (w := (.val (.bool true))) (v := (.val (.bool true))) (E_pickT (by kernel_rfl) (by kernel_rfl)) rfl rfl rfl ?_
                  refine X_nil (m := [(102, (.val (.bool true))), (9, (.box [1002] 0)), (8, (.val (.bool false))), (4, (.box [1001] 0)), (1, (.val (.int .i64 p_qty))), (2, (.val (.int .i64 p_price))), (3, (.val (.int .i64 p_seq)))]) (by exact ⟨rfl, rfl, rfl, rfl, rfl, rfl, rfl, trivial⟩) ?_
                  exact q_some fun h => (QN_then : QN _ _) _ _ (by exact Sub_keep ⟨.refl _, .refl _, .refl _, .refl _, .refl _, .refl _, .refl _, trivial⟩ ⟨⟨_, (by kernel_rfl), .refl _⟩, ⟨_, (by kernel_rfl), .refl _⟩, trivial⟩ (by kernel_rfl) (by kernel_rfl)) h
                · refine X_lit (t := 74) (v := false) rfl h19 ?_
                  refine X_op (w := (.may true (.val (.int .i64 v10.2)))) (v := (.val (.int .i64 v10.2))) (E_p (by kernel_rfl)) rfl rfl rfl ?_
                  refine X_op (w := (.may true (.val (.bool (v10.2 == 0))))) (v := (.val (.bool (v10.2 == 0)))) (E_p (by kernel_rfl)) rfl rfl rfl ?_
                  refine X_op (w := (.may true (.val (.bool (v10.2 == 0))))) (v := (.val (.bool (v10.2 == 0)))) (E_p (by kernel_rfl)) rfl rfl rfl ?_
                  refine q_bif (fun h20 => ?_) (fun h20 => ?_)
                  · refine X_litM (t := 77) (v := true) rfl h20 ?_
                    refine X_op (w := (.may true (.val (.int .i64 v11.2)))) (v := (.val (.int .i64 v11.2))) (E_p (by kernel_rfl)) rfl rfl rfl ?_
                    refine X_op (w := (.may true (.val (.bool (v11.2 == 0))))) (v := (.val (.bool (v11.2 == 0)))) (E_p (by kernel_rfl)) rfl rfl rfl ?_
                    refine X_op (w := (.may true (.val (.bool (v11.2 == 0))))) (v := (.val (.bool (v11.2 == 0)))) (E_pickT (by kernel_rfl) (by kernel_rfl)) rfl rfl rfl ?_
                    refine X_op (w := (.may true (.val (.bool (v11.2 == 0))))) (v := (.val (.bool (v11.2 == 0)))) (E_p (by kernel_rfl)) rfl rfl rfl ?_
                    refine q_bif (fun h21 => ?_) (fun h21 => ?_)
                    · refine X_litM (t := 81) (v := true) rfl h21 ?_
                      refine X_op (w := (.may true (.val (.int .i64 v11.1)))) (v := (.val (.int .i64 v11.1))) (E_p (by kernel_rfl)) rfl rfl rfl ?_
                      refine X_op (w := (.may true (.val (.int .i64 v10.1)))) (v := (.val (.int .i64 v10.1))) (E_p (by kernel_rfl)) rfl rfl rfl ?_
                      refine X_op (w := (.may true (.val (.bool (decide (v11.1 < v10.1)))))) (v := (.val (.bool (decide (v11.1 < v10.1))))) (E_p (by kernel_rfl)) rfl rfl rfl ?_
                      refine X_op (w := (.may true (.val (.bool (decide (v11.1 < v10.1)))))) (v := (.val (.bool (decide (v11.1 < v10.1))))) (E_pickT (by kernel_rfl) (by kernel_rfl)) rfl rfl rfl ?_
                      refine X_op (w := (.val (.bool (decide (v11.1 < v10.1))))) (v := (.val (.bool (decide (v11.1 < v10.1))))) (E_pickF (by kernel_rfl) (by kernel_rfl)) rfl rfl rfl ?_
                      refine X_op (w := (.val (.bool (decide (v11.1 < v10.1))))) (v := (.val (.bool (decide (v11.1 < v10.1))))) (E_p (by kernel_rfl)) rfl rfl rfl ?_
                      refine q_bif (fun h22 => ?_) (fun h22 => ?_)
                      · refine X_lit (t := 87) (v := true) rfl h22 ?_
                        refine X_off (v := (.val (.int .i64 v10.2))) (by rfl) (by rfl) (E_p (by kernel_rfl)) rfl rfl ?_
                        refine X_off (v := (.val (.bool (v10.2 != 0)))) (by rfl) (by rfl) (E_p (by kernel_rfl)) rfl rfl ?_
                        refine X_off (v := (.val (.bool (v10.2 != 0)))) (by rfl) (by rfl) (E_p (by kernel_rfl)) rfl rfl ?_
                        refine X_off (v := (.val (.int .i64 v11.2))) (by rfl) (by rfl) (E_p (by kernel_rfl)) rfl rfl ?_
                        refine X_off (v := (.val (.bool (v11.2 == 0)))) (by rfl) (by rfl) (E_p (by kernel_rfl)) rfl rfl ?_
                        refine X_off (v := (.val (.bool (bif (v10.2 != 0) then (v11.2 == 0) else false)))) (by rfl) (by rfl) (E_p (by kernel_rfl)) rfl rfl ?_
                        refine X_op (w := (.val (.bool true))) (v := (.val (.bool true))) (E_pickT (by kernel_rfl) (by kernel_rfl)) rfl rfl rfl ?_
                        refine X_op (w := (.val (.bool true))) (v := (.val (.bool true))) (E_p (by kernel_rfl)) rfl rfl rfl ?_
                        refine X_off (v := (.val (.int .i64 v12.2))) (by rfl) (by rfl) (E_p (by kernel_rfl)) rfl rfl ?_
                        refine X_off (v := (.val (.bool (v12.2 == 0)))) (by rfl) (by rfl) (E_p (by kernel_rfl)) rfl rfl ?_
                        refine X_op (w := (.val (.bool true))) (v := (.val (.bool true))) (E_pickT (by kernel_rfl) (by kernel_rfl)) rfl rfl rfl ?_
                        refine X_op (w := (.val (.bool true))) (v := (.val (.bool true))) (E_p (by kernel_rfl)) rfl rfl rfl ?_
                        refine X_off (v := (.box [1001] 11)) (by rfl) (by rfl) (E_p (by kernel_rfl)) rfl rfl ?_
                        refine X_off (v := (.val (.bool p_o.Asked))) (by rfl) (by rfl) (E_load (by kernel_rfl)) rfl rfl ?_
                        refine X_op (w := (.val (.bool true))) (v := (.val (.bool true))) (E_pickT (by kernel_rfl) (by kernel_rfl)) rfl rfl rfl ?_
                        refine X_nil (m := [(102, (.val (.bool true))), (9, (.box [1002] 0)), (8, (.val (.bool false))), (4, (.box [1001] 0)), (1, (.val (.int .i64 p_qty))), (2, (.val (.int .i64 p_price))), (3, (.val (.int .i64 p_seq)))]) (by exact ⟨rfl, rfl, rfl, rfl, rfl, rfl, rfl, trivial⟩) ?_
                        exact q_some fun h => (QN_then : QN _ _) _ _ (by exact Sub_keep ⟨.refl _, .refl _, .refl _, .refl _, .refl _, .refl _, .refl _, trivial⟩ ⟨⟨_, (by kernel_rfl), .refl _⟩, ⟨_, (by kernel_rfl), .refl _⟩, trivial⟩ (by kernel_rfl) (by kernel_rfl)) h
                      · refine X_lit (t := 87) (v := false) rfl h22 ?_
                        refine X_op (w := (.may true (.val (.int .i64 v10.2)))) (v := (.val (.int .i64 v10.2))) (E_p (by kernel_rfl)) rfl rfl rfl ?_
                        refine X_op (w := (.may true (.val (.bool (v10.2 != 0))))) (v := (.val (.bool (v10.2 != 0)))) (E_p (by kernel_rfl)) rfl rfl rfl ?_
                        refine X_op (w := (.may true (.val (.bool (v10.2 != 0))))) (v := (.val (.bool (v10.2 != 0)))) (E_p (by kernel_rfl)) rfl rfl rfl ?_
                        refine q_bif (fun h23 => ?_) (fun h23 => ?_)
                        · refine X_litM (t := 90) (v := true) rfl h23 ?_
                          refine X_op (w := (.may true (.val (.int .i64 v11.2)))) (v := (.val (.int .i64 v11.2))) (E_p (by kernel_rfl)) rfl rfl rfl ?_
                          refine X_op (w := (.may true (.val (.bool (v11.2 == 0))))) (v := (.val (.bool (v11.2 == 0)))) (E_p (by kernel_rfl)) rfl rfl rfl ?_
                          refine X_op (w := (.may true (.val (.bool (v11.2 == 0))))) (v := (.val (.bool (v11.2 == 0)))) (E_pickT (by kernel_rfl) (by kernel_rfl)) rfl rfl rfl ?_
                          refine X_op (w := (.val (.bool (v11.2 == 0)))) (v := (.val (.bool (v11.2 == 0)))) (E_pickF (by kernel_rfl) (by kernel_rfl)) rfl rfl rfl ?_
                          refine X_op (w := (.val (.bool (v11.2 == 0)))) (v := (.val (.bool (v11.2 == 0)))) (E_p (by kernel_rfl)) rfl rfl rfl ?_
                          refine q_bif (fun h24 => ?_) (fun h24 => ?_)
                          · refine X_lit (t := 95) (v := true) rfl h24 ?_
                            refine X_off (v := (.val (.int .i64 v12.2))) (by rfl) (by rfl) (E_p (by kernel_rfl)) rfl rfl ?_
                            refine X_off (v := (.val (.bool (v12.2 == 0)))) (by rfl) (by rfl) (E_p (by kernel_rfl)) rfl rfl ?_
                            refine X_op (w := (.val (.bool true))) (v := (.val (.bool true))) (E_pickT (by kernel_rfl) (by kernel_rfl)) rfl rfl rfl ?_
                            refine X_op (w := (.val (.bool true))) (v := (.val (.bool true))) (E_p (by kernel_rfl)) rfl rfl rfl ?_
                            refine X_off (v := (.box [1001] 11)) (by rfl) (by rfl) (E_p (by kernel_rfl)) rfl rfl ?_
                            refine X_off (v := (.val (.bool p_o.Asked))) (by rfl) (by rfl) (E_load (by kernel_rfl)) rfl rfl ?_
                            refine X_op (w := (.val (.bool true))) (v := (.val (.bool true))) (E_pickT (by kernel_rfl) (by kernel_rfl)) rfl rfl rfl ?_
                            refine X_nil (m := [(102, (.val (.bool true))), (9, (.box [1002] 0)), (8, (.val (.bool false))), (4, (.box [1001] 0)), (1, (.val (.int .i64 p_qty))), (2, (.val (.int .i64 p_price))), (3, (.val (.int .i64 p_seq)))]) (by exact ⟨rfl, rfl, rfl, rfl, rfl, rfl, rfl, trivial⟩) ?_
                            exact q_some fun h => (QN_then : QN _ _) _ _ (by exact Sub_keep ⟨.refl _, .refl _, .refl _, .refl _, .refl _, .refl _, .refl _, trivial⟩ ⟨⟨_, (by kernel_rfl), .refl _⟩, ⟨_, (by kernel_rfl), .refl _⟩, trivial⟩ (by kernel_rfl) (by kernel_rfl)) h
                          · refine X_lit (t := 95) (v := false) rfl h24 ?_
                            refine X_op (w := (.may true (.val (.int .i64 v12.2)))) (v := (.val (.int .i64 v12.2))) (E_p (by kernel_rfl)) rfl rfl rfl ?_
                            refine X_op (w := (.may true (.val (.bool (v12.2 == 0))))) (v := (.val (.bool (v12.2 == 0)))) (E_p (by kernel_rfl)) rfl rfl rfl ?_
                            refine X_op (w := (.val (.bool (v12.2 == 0)))) (v := (.val (.bool (v12.2 == 0)))) (E_pickF (by kernel_rfl) (by kernel_rfl)) rfl rfl rfl ?_
                            refine X_op (w := (.val (.bool (v12.2 == 0)))) (v := (.val (.bool (v12.2 == 0)))) (E_p (by kernel_rfl)) rfl rfl rfl ?_
                            refine q_bif (fun h25 => ?_) (fun h25 => ?_)
                            · refine X_lit (t := 99) (v := true) rfl h25 ?_
                              refine X_off (v := (.box [1001] 11)) (by rfl) (by rfl) (E_p (by kernel_rfl)) rfl rfl ?_
                              refine X_off (v := (.val (.bool p_o.Asked))) (by rfl) (by rfl) (E_load (by kernel_rfl)) rfl rfl ?_
                              refine X_op (w := (.val (.bool true))) (v := (.val (.bool true))) (E_pickT (by kernel_rfl) (by kernel_rfl)) rfl rfl rfl ?_
                              refine X_nil (m := [(102, (.val (.bool true))), (9, (.box [1002] 0)), (8, (.val (.bool false))), (4, (.box [1001] 0)), (1, (.val (.int .i64 p_qty))), (2, (.val (.int .i64 p_price))), (3, (.val (.int .i64 p_seq)))]) (by exact ⟨rfl, rfl, rfl, rfl, rfl, rfl, rfl, trivial⟩) ?_
                              exact q_some fun h => (QN_then : QN _ _) _ _ (by exact Sub_keep ⟨.refl _, .refl _, .refl _, .refl _, .refl _, .refl _, .refl _, trivial⟩ ⟨⟨_, (by kernel_rfl), .refl _⟩, ⟨_, (by kernel_rfl), .refl _⟩, trivial⟩ (by kernel_rfl) (by kernel_rfl)) h
                            · refine X_lit (t := 99) (v := false) rfl h25 ?_
                              refine X_op (w := (.may true (.box [1001] 11))) (v := (.box [1001] 11)) (E_p (by kernel_rfl)) rfl rfl rfl ?_
                              refine X_op (w := (.may true (.val (.bool p_o.Asked)))) (v := (.val (.bool p_o.Asked))) (E_load (by kernel_rfl)) rfl rfl rfl ?_
                              refine X_op (w := (.val (.bool p_o.Asked))) (v := (.val (.bool p_o.Asked))) (E_pickF (by kernel_rfl) (by kernel_rfl)) rfl rfl rfl ?_
                              refine X_nil (m := [(102, (.val (.bool p_o.Asked))), (9, (.box [1002] 0)), (8, (.val (.bool false))), (4, (.box [1001] 0)), (1, (.val (.int .i64 p_qty))), (2, (.val (.int .i64 p_price))), (3, (.val (.int .i64 p_seq)))]) (by exact ⟨rfl, rfl, rfl, rfl, rfl, rfl, rfl, trivial⟩) ?_
                              exact q_some fun h => (QN_then : QN _ _) _ _ (by exact Sub_keep ⟨.refl _, .refl _, .refl _, .refl _, .refl _, .refl _, .refl _, trivial⟩ ⟨⟨_, (by kernel_rfl), .refl _⟩, ⟨_, (by kernel_rfl), .refl _⟩, trivial⟩ (by kernel_rfl) (by kernel_rfl)) h
                        · refine X_litM (t := 90) (v := false) rfl h23 ?_
                          refine X_off (v := (.val (.int .i64 v11.2))) (by rfl) (by rfl) (E_p (by kernel_rfl)) rfl rfl ?_
                          refine X_off (v := (.val (.bool (v11.2 == 0)))) (by rfl) (by rfl) (E_p (by kernel_rfl)) rfl rfl ?_
                          refine X_op (w := (.may true (.val (.bool false)))) (v := (.val (.bool false))) (E_pickF (by kernel_rfl) (by kernel_rfl)) rfl rfl rfl ?_
                          refine X_op (w := (.val (.bool false))) (v := (.val (.bool false))) (E_pickF (by kernel_rfl) (by kernel_rfl)) rfl rfl rfl ?_
                          refine X_op (w := (.val (.bool false))) (v := (.val (.bool false))) (E_p (by kernel_rfl)) rfl rfl rfl ?_
                          refine X_op (w := (.may true (.val (.int .i64 v12.2)))) (v := (.val (.int .i64 v12.2))) (E_p (by kernel_rfl)) rfl rfl rfl ?_
                          refine X_op (w := (.may true (.val (.bool (v12.2 == 0))))) (v := (.val (.bool (v12.2 == 0)))) (E_p (by kernel_rfl)) rfl rfl rfl ?_
                          refine X_op (w := (.val (.bool (v12.2 == 0)))) (v := (.val (.bool (v12.2 == 0)))) (E_pickF (by kernel_rfl) (by kernel_rfl)) rfl rfl rfl ?_
                          refine X_op (w := (.val (.bool (v12.2 == 0)))) (v := (.val (.bool (v12.2 == 0)))) (E_p (by kernel_rfl)) rfl rfl rfl ?_
                          refine q_bif (fun h26 => ?_) (fun h26 => ?_)
                          · refine X_lit (t := 99) (v := true) rfl h26 ?_
                            refine X_off (v := (.box [1001] 11)) (by rfl) (by rfl) (E_p (by kernel_rfl)) rfl rfl ?_
                            refine X_off (v := (.val (.bool p_o.Asked))) (by rfl) (by rfl) (E_load (by kernel_rfl)) rfl rfl ?_
                            refine X_op (w := (.val (.bool true))) (v := (.val (.bool true))) (E_pickT (by kernel_rfl) (by kernel_rfl)) rfl rfl rfl ?_
                            refine X_nil (m := [(102, (.val (.bool true))), (9, (.box [1002] 0)), (8, (.val (.bool false))), (4, (.box [1001] 0)), (1, (.val (.int .i64 p_qty))), (2, (.val (.int .i64 p_price))), (3, (.val (.int .i64 p_seq)))]) (by exact ⟨rfl, rfl, rfl, rfl, rfl, rfl, rfl, trivial⟩) ?_
                            exact q_some fun h => (QN_then : QN _ _) _ _ (by exact Sub_keep ⟨.refl _, .refl _, .refl _, .refl _, .refl _, .refl _, .refl _, trivial⟩ ⟨⟨_, (by kernel_rfl), .refl _⟩, ⟨_, (by kernel_rfl), .refl _⟩, trivial⟩ (by kernel_rfl) (by kernel_rfl)) h
                          · refine X_lit (t := 99) (v := false) rfl h26 ?_
                            refine X_op (w := (.may true (.box [1001] 11))) (v := (.box [1001] 11)) (E_p (by kernel_rfl)) rfl rfl rfl ?_
                            refine X_op (w := (.may true (.val (.bool p_o.Asked)))) (v := (.val (.bool p_o.Asked))) (E_load (by kernel_rfl)) rfl rfl rfl ?_
                            refine X_op (w := (.val (.bool p_o.Asked))) (v := (.val (.bool p_o.Asked))) (E_pickF (by kernel_rfl) (by kernel_rfl)) rfl rfl rfl ?_
                            refine X_nil (m := [(102, (.val (.bool p_o.Asked))), (9, (.box [1002] 0)), (8, (.val (.bool false))), (4, (.box [1001] 0)), (1, (.val (.int .i64 p_qty))), (2, (.val (.int .i64 p_price))), (3, (.val (.int .i64 p_seq)))]) (by exact ⟨rfl, rfl, rfl, rfl, rfl, rfl, rfl, trivial⟩) ?_
                            exact q_some fun h => (QN_then : QN _ _) _ _ (by exact Sub_keep ⟨.refl _, .refl _, .refl _, .refl _, .refl _, .refl _, .refl _, trivial⟩ ⟨⟨_, (by kernel_rfl), .refl _⟩, ⟨_, (by kernel_rfl), .refl _⟩, trivial⟩ (by kernel_rfl) (by kernel_rfl)) h
                    · refine X_litM (t := 81) (v := false) rfl h21 ?_
                      refine X_off (v := (.val (.int .i64 v11.1))) (by rfl) (by rfl) (E_p (by kernel_rfl)) rfl rfl ?_
                      refine X_off (v := (.val (.int .i64 v10.1))) (by rfl) (by rfl) (E_p (by kernel_rfl)) rfl rfl ?_
                      refine X_off (v := (.val (.bool (decide (v11.1 < v10.1))))) (by rfl) (by rfl) (E_p (by kernel_rfl)) rfl rfl ?_
                      refine X_op (w := (.may true (.val (.bool false)))) (v := (.val (.bool false))) (E_pickF (by kernel_rfl) (by kernel_rfl)) rfl rfl rfl ?_
                      refine X_op (w := (.val (.bool false))) (v := (.val (.bool false))) (E_pickF (by kernel_rfl) (by kernel_rfl)) rfl rfl rfl ?_
                      refine X_op (w := (.val (.bool false))) (v := (.val (.bool false))) (E_p (by kernel_rfl)) rfl rfl rfl ?_
                      refine X_op (w := (.may true (.val (.int .i64 v10.2)))) (v := (.val (.int .i64 v10.2))) (E_p (by kernel_rfl)) rfl rfl rfl ?_
                      refine X_op (w := (.may true (.val (.bool (v10.2 != 0))))) (v := (.val (.bool (v10.2 != 0)))) (E_p (by kernel_rfl)) rfl rfl rfl ?_
                      refine X_op (w := (.may true (.val (.bool (v10.2 != 0))))) (v := (.val (.bool (v10.2 != 0)))) (E_p (by kernel_rfl)) rfl rfl rfl ?_
                      refine q_bif (fun h27 => ?_) (fun h27 => ?_)
                      · refine X_litM (t := 90) (v := true) rfl h27 ?_
                        refine X_op (w := (.may true (.val (.int .i64 v11.2)))) (v := (.val (.int .i64 v11.2))) (E_p (by kernel_rfl)) rfl rfl rfl ?_
                        refine X_op (w := (.may true (.val (.bool (v11.2 == 0))))) (v := (.val (.bool (v11.2 == 0)))) (E_p (by kernel_rfl)) rfl rfl rfl ?_
                        refine X_op (w := (.may true (.val (.bool (v11.2 == 0))))) (v := (.val (.bool (v11.2 == 0)))) (E_pickT (by kernel_rfl) (by kernel_rfl)) rfl rfl rfl ?_
                        refine X_op (w := (.val (.bool (v11.2 == 0)))) (v := (.val (.bool (v11.2 == 0)))) (E_pickF (by kernel_rfl) (by kernel_rfl)) rfl rfl rfl ?_
                        refine X_op (w := (.val (.bool (v11.2 == 0)))) (v := (.val (.bool (v11.2 == 0)))) (E_p (by kernel_rfl)) rfl rfl rfl ?_
                        refine q_bif (fun h28 => ?_) (fun h28 => ?_)
                        · refine X_lit (t := 95) (v := true) rfl h28 ?_
                          refine X_off (v := (.val (.int .i64 v12.2))) (by rfl) (by rfl) (E_p (by kernel_rfl)) rfl rfl ?_
                          refine X_off (v := (.val (.bool (v12.2 == 0)))) (by rfl) (by rfl) (E_p (by kernel_rfl)) rfl rfl ?_
                          refine X_op (w := (.val (.bool true))) (v := (.val (.bool true))) (E_pickT (by kernel_rfl) (by kernel_rfl)) rfl rfl rfl ?_
                          refine X_op (w := (.val (.bool true))) (v := (.val (.bool true))) (E_p (by kernel_rfl)) rfl rfl rfl ?_
                          refine X_off (v := (.box [1001] 11)) (by rfl) (by rfl) (E_p (by kernel_rfl)) rfl rfl ?_
                          refine X_off (v := (.val (.bool p_o.Asked))) (by rfl) (by rfl) (E_load (by kernel_rfl)) rfl rfl ?_
                          refine X_op (w := (.val (.bool true))) (v := (.val (.bool true))) (E_pickT (by kernel_rfl) (by kernel_rfl)) rfl rfl rfl ?_
                          refine X_nil (m := [(102, (.val (.bool true))), (9, (.box [1002] 0)), (8, (.val (.bool false))), (4, (.box [1001] 0)), (1, (.val (.int .i64 p_qty))), (2, (.val (.int .i64 p_price))), (3, (.val (.int .i64 p_seq)))]) (by exact ⟨rfl, rfl, rfl, rfl, rfl, rfl, rfl, trivial⟩) ?_
                          exact q_some fun h => (QN_then : QN _ _) _ _ (by exact Sub_keep ⟨.refl _, .refl _, .refl _, .refl _, .refl _, .refl _, .refl _, trivial⟩ ⟨⟨_, (by kernel_rfl), .refl _⟩, ⟨_, (by kernel_rfl), .refl _⟩, trivial⟩ (by kernel_rfl) (by kernel_rfl)) h
                        · refine X_lit (t := 95) (v := false) rfl h28 ?_
                          refine X_op (w := (.may true (.val (.int .i64 v12.2)))) (v := (.val (.int .i64 v12.2))) (E_p (by kernel_rfl)) rfl rfl rfl ?_
                          refine X_op (w := (.may true (.val (.bool (v12.2 == 0))))) (v := (.val (.bool (v12.2 == 0)))) (E_p (by kernel_rfl)) rfl rfl rfl ?_
                          refine X_op (w := (.val (.bool (v12.2 == 0)))) (v := (.val (.bool (v12.2 == 0)))) (E_pickF (by kernel_rfl) (by kernel_rfl)) rfl rfl rfl ?_
                          refine X_op (w := (.val (.bool (v12.2 == 0)))) (v := (.val (.bool (v12.2 == 0)))) (E_p (by kernel_rfl)) rfl rfl rfl ?_
                          refine q_bif (fun h29 => ?_) (fun h29 => ?_)
                          · refine X_lit (t := 99) (v := true) rfl h29 ?_
                            refine X_off (v := (.box [1001] 11)) (by rfl) (by rfl) (E_p (by kernel_rfl)) rfl rfl ?_
                            refine X_off (v := (.val (.bool p_o.Asked))) (by rfl) (by rfl) (E_load (by kernel_rfl)) rfl rfl ?_
                            refine X_op (w := (.val (.bool true))) (v := (.val (.bool true))) (E_pickT (by kernel_rfl) (by kernel_rfl)) rfl rfl rfl ?_
                            refine X_nil (m := [(102, (.val (.bool true))), (9, (.box [1002] 0)), (8, (.val (.bool false))), (4, (.box [1001] 0)), (1, (.val (.int .i64 p_qty))), (2, (.val (.int .i64 p_price))), (3, (.val (.int .i64 p_seq)))]) (by exact ⟨rfl, rfl, rfl, rfl, rfl, rfl, rfl, trivial⟩) ?_
                            exact q_some fun h => (QN_then : QN _ _) _ _ (by exact Sub_keep ⟨.refl _, .refl _, .refl _, .refl _, .refl _, .refl _, .refl _, trivial⟩ ⟨⟨_, (by kernel_rfl), .refl _⟩, ⟨_, (by kernel_rfl), .refl _⟩, trivial⟩ (by kernel_rfl) (by kernel_rfl)) h
                          · refine X_lit (t := 99) (v := false) rfl h29 ?_
                            refine X_op (w := (.may true (.box [1001] 11))) (v := (.box [1001] 11)) (E_p (by kernel_rfl)) rfl rfl rfl ?_
                            refine X_op (w := (.may true (.val (.bool p_o.Asked)))) (v := (.val (.bool p_o.Asked))) (E_load (by kernel_rfl)) rfl rfl rfl ?_
                            refine X_op (w := (.val (.bool p_o.Asked))) (v := (.val (.bool p_o.Asked))) (E_pickF (by kernel_rfl) (by kernel_rfl)) rfl rfl rfl ?_
                            refine X_nil (m := [(102, (.val (.bool p_o.Asked))), (9, (.box [1002] 0)), (8, (.val (.bool false))), (4, (.box [1001] 0)), (1, (.val (.int .i64 p_qty))), (2, (.val (.int .i64 p_price))), (3, (.val (.int .i64 p_seq)))]) (by exact ⟨rfl, rfl, rfl, rfl, rfl, rfl, rfl, trivial⟩) ?_
                            exact q_some fun h => (QN_then : QN _ _) _ _ (by exact Sub_keep ⟨.refl _, .refl _, .refl _, .refl _, .refl _, .refl _, .refl _, trivial⟩ ⟨⟨_, (by kernel_rfl), .refl _⟩, ⟨_, (by kernel_rfl), .refl _⟩, trivial⟩ (by kernel_rfl) (by kernel_rfl)) h
                      · refine X_litM (t := 90) (v := false) rfl h27 ?_
                        refine X_off (v := (.val (.int .i64 v11.2))) (by rfl) (by rfl) (E_p (by kernel_rfl)) rfl rfl ?_
                        refine X_off (v := (.val (.bool (v11.2 == 0)))) (by rfl) (by rfl) (E_p (by kernel_rfl)) rfl rfl ?_
                        refine X_op (w := (.may true (.val (.bool false)))) (v := (.val (.bool false))) (E_pickF (by kernel_rfl) (by kernel_rfl)) rfl rfl rfl ?_
                        refine X_op (w := (.val (.bool false))) (v := (.val (.bool false))) (E_pickF (by kernel_rfl) (by kernel_rfl)) rfl rfl rfl ?_
                        refine X_op (w := (.val (.bool false))) (v := (.val (.bool false))) (E_p (by kernel_rfl)) rfl rfl rfl ?_
                        refine X_op (w := (.may true (.val (.int .i64 v12.2)))) (v := (.val (.int .i64 v12.2))) (E_p (by kernel_rfl)) rfl rfl rfl ?_
                        refine X_op (w := (.may true (.val (.bool (v12.2 == 0))))) (v := (.val (.bool (v12.2 == 0)))) (E_p (by kernel_rfl)) rfl rfl rfl ?_
                        refine X_op (w := (.val (.bool (v12.2 == 0)))) (v := (.val (.bool (v12.2 == 0)))) (E_pickF (by kernel_rfl) (by kernel_rfl)) rfl rfl rfl ?_
                        refine X_op (w := (.val (.bool (v12.2 == 0)))) (v := (.val (.bool (v12.2 == 0)))) (E_p (by kernel_rfl)) rfl rfl rfl ?_
                        refine q_bif (fun h30 => ?_) (fun h30 => ?_)
                        · refine X_lit (t := 99) (v := true) rfl h30 ?_
                          refine X_off (v := (.box [1001] 11)) (by rfl) (by rfl) (E_p (by kernel_rfl)) rfl rfl ?_
                          refine X_off (v := (.val (.bool p_o.Asked))) (by rfl) (by rfl) (E_load (by kernel_rfl)) rfl rfl ?_
                          refine X_op (w := (.val (.bool true))) (v := (.val (.bool true))) (E_pickT (by kernel_rfl) (by kernel_rfl)) rfl rfl rfl ?_
                          refine X_nil (m := [(102, (.val (.bool true))), (9, (.box [1002] 0)), (8, (.val (.bool false))), (4, (.box [1001] 0)), (1, (.val (.int .i64 p_qty))), (2, (.val (.int .i64 p_price))), (3, (.val (.int .i64 p_seq)))]) (by exact ⟨rfl, rfl, rfl, rfl, rfl, rfl, rfl, trivial⟩) ?_
                          exact q_some fun h => (QN_then : QN _ _) _ _ (by exact Sub_keep ⟨.refl _, .refl _, .refl _, .refl _, .refl _, .refl _, .refl _, trivial⟩ ⟨⟨_, (by kernel_rfl), .refl _⟩, ⟨_, (by kernel_rfl), .refl _⟩, trivial⟩ (by kernel_rfl) (by kernel_rfl)) h
                        · refine X_lit (t := 99) (v := false) rfl h30 ?_
                          refine X_op (w := (.may true (.box [1001] 11))) (v := (.box [1001] 11)) (E_p (by kernel_rfl)) rfl rfl rfl ?_
                          refine X_op (w := (.may true (.val (.bool p_o.Asked)))) (v := (.val (.bool p_o.Asked))) (E_load (by kernel_rfl)) rfl rfl rfl ?_
                          refine X_op (w := (.val (.bool p_o.Asked))) (v := (.val (.bool p_o.Asked))) (E_pickF (by kernel_rfl) (by kernel_rfl)) rfl rfl rfl ?_
                          refine X_nil (m := [(102, (.val (.bool p_o.Asked))), (9, (.box [1002] 0)), (8, (.val (.bool false))), (4, (.box [1001] 0)), (1, (.val (.int .i64 p_qty))), (2, (.val (.int .i64 p_price))), (3, (.val (.int .i64 p_seq)))]) (by exact ⟨rfl, rfl, rfl, rfl, rfl, rfl, rfl, trivial⟩) ?_
                          exact q_some fun h => (QN_then : QN _ _) _ _ (by exact Sub_keep ⟨.refl _, .refl _, .refl _, .refl _, .refl _, .refl _, .refl _, trivial⟩ ⟨⟨_, (by kernel_rfl), .refl _⟩, ⟨_, (by kernel_rfl), .refl _⟩, trivial⟩ (by kernel_rfl) (by kernel_rfl)) h
                  · refine X_litM (t := 77) (v := false) rfl h20 ?_
                    refine X_off (v := (.val (.int .i64 v11.2))) (by rfl) (by rfl) (E_p (by kernel_rfl)) rfl rfl ?_
                    refine X_off (v := (.val (.bool (v11.2 == 0)))) (by rfl) (by rfl) (E_p (by kernel_rfl)) rfl rfl ?_
                    refine X_op (w := (.may true (.val (.bool false)))) (v := (.val (.bool false))) (E_pickF (by kernel_rfl) (by kernel_rfl)) rfl rfl rfl ?_
                    refine X_op (w := (.may true (.val (.bool false)))) (v := (.val (.bool false))) (E_p (by kernel_rfl)) rfl rfl rfl ?_
                    refine X_off (v := (.val (.int .i64 v11.1))) (by rfl) (by rfl) (E_p (by kernel_rfl)) rfl rfl ?_
                    refine X_off (v := (.val (.int .i64 v10.1))) (by rfl) (by rfl) (E_p (by kernel_rfl)) rfl rfl ?_
                    refine X_off (v := (.val (.bool (decide (v11.1 < v10.1))))) (by rfl) (by rfl) (E_p (by kernel_rfl)) rfl rfl ?_
                    refine X_op (w := (.may true (.val (.bool false)))) (v := (.val (.bool false))) (E_pickF (by kernel_rfl) (by kernel_rfl)) rfl rfl rfl ?_
                    refine X_op (w := (.val (.bool false))) (v := (.val (.bool false))) (E_pickF (by kernel_rfl) (by kernel_rfl)) rfl rfl rfl ?_
                    refine X_op (w := (.val (.bool false))) (v := (.val (.bool false))) (E_p (by kernel_rfl)) rfl rfl rfl ?_
                    refine X_op (w := (.may true (.val (.int .i64 v10.2)))) (v := (.val (.int .i64 v10.2))) (E_p (by kernel_rfl)) rfl rfl rfl ?_
                    refine X_op (w := (.may true (.val (.bool (v10.2 != 0))))) (v := (.val (.bool (v10.2 != 0)))) (E_p (by kernel_rfl)) rfl rfl rfl ?_
                    refine X_op (w := (.may true (.val (.bool (v10.2 != 0))))) (v := (.val (.bool (v10.2 != 0)))) (E_p (by kernel_rfl)) rfl rfl rfl ?_
                    refine q_bif (fun h31 => ?_) (fun h31 => ?_)
                    · refine X_litM (t := 90) (v := true) rfl h31 ?_
                      refine X_op (w := (.may true (.val (.int .i64 v11.2)))) (v := (.val (.int .i64 v11.2))) (E_p (by kernel_rfl)) rfl rfl rfl ?_
                      refine X_op (w := (.may true (.val (.bool (v11.2 == 0))))) (v := (.val (.bool (v11.2 == 0)))) (E_p (by kernel_rfl)) rfl rfl rfl ?_
                      refine X_op (w := (.may true (.val (.bool (v11.2 == 0))))) (v := (.val (.bool (v11.2 == 0)))) (E_pickT (by kernel_rfl) (by kernel_rfl)) rfl rfl rfl ?_
                      refine X_op (w := (.val (.bool (v11.2 == 0)))) (v := (.val (.bool (v11.2 == 0)))) (E_pickF (by kernel_rfl) (by kernel_rfl)) rfl rfl rfl ?_
                      refine X_op (w := (.val (.bool (v11.2 == 0)))) (v := (.val (.bool (v11.2 == 0)))) (E_p (by kernel_rfl)) rfl rfl rfl ?_
                      refine q_bif (fun h32 => ?_) (fun h32 => ?_)
                      · refine X_lit (t := 95) (v := true) rfl h32 ?_
                        refine X_off (v := (.val (.int .i64 v12.2))) (by rfl) (by rfl) (E_p (by kernel_rfl)) rfl rfl ?_
                        refine X_off (v := (.val (.bool (v12.2 == 0)))) (by rfl) (by rfl) (E_p (by kernel_rfl)) rfl rfl ?_
                        refine X_op (w := (.val (.bool true))) (v := (.val (.bool true))) (E_pickT (by kernel_rfl) (by kernel_rfl)) rfl rfl rfl ?_
                        refine X_op (w := (.val (.bool true))) (v := (.val (.bool true))) (E_p (by kernel_rfl)) rfl rfl rfl ?_
                        refine X_off (v := (.box [1001] 11)) (by rfl) (by rfl) (E_p (by kernel_rfl)) rfl rfl ?_
                        refine X_off (v := (.val (.bool p_o.Asked))) (by rfl) (by rfl) (E_load (by kernel_rfl)) rfl rfl ?_
                        refine X_op (w := (.val (.bool true))) (v := (.val (.bool true))) (E_pickT (by kernel_rfl) (by kernel_rfl)) rfl rfl rfl ?_
                        refine X_nil (m := [(102, (.val (.bool true))), (9, (.box [1002] 0)), (8, (.val (.bool false))), (4, (.box [1001] 0)), (1, (.val (.int .i64 p_qty))), (2, (.val (.int .i64 p_price))), (3, (.val (.int .i64 p_seq)))]) (by exact ⟨rfl, rfl, rfl, rfl, rfl, rfl, rfl, trivial⟩) ?_
                        exact q_some fun h => (QN_then : QN _ _) _ _ (by exact Sub_keep ⟨.refl _, .refl _, .refl _, .refl _, .refl _, .refl _, .refl _, trivial⟩ ⟨⟨_, (by kernel_rfl), .refl _⟩, ⟨_, (by kernel_rfl), .refl _⟩, trivial⟩ (by kernel_rfl) (by kernel_rfl)) h
                      · refine X_lit (t := 95) (v := false) rfl h32 ?_
                        refine X_op (w := (.may true (.val (.int .i64 v12.2)))) (v := (.val (.int .i64 v12.2))) (E_p (by kernel_rfl)) rfl rfl rfl ?_
                        refine X_op (w := (.may true (.val (.bool (v12.2 == 0))))) (v := (.val (.bool (v12.2 == 0)))) (E_p (by kernel_rfl)) rfl rfl rfl ?_
                        refine X_op (w := (.val (.bool (v12.2 == 0)))) (v := (.val (.bool (v12.2 == 0)))) (E_pickF (by kernel_rfl) (by kernel_rfl)) rfl rfl rfl ?_
                        refine X_op (w := (.val (.bool (v12.2 == 0)))) (v := (.val (.bool (v12.2 == 0)))) (E_p (by kernel_rfl)) rfl rfl rfl ?_
                        refine q_bif (fun h33 => ?_) (fun h33 => ?_)
                        · refine X_lit (t := 99) (v := true) rfl h33 ?_
                          refine X_off (v := (.box [1001] 11)) (by rfl) (by rfl) (E_p (by kernel_rfl)) rfl rfl ?_
                          refine X_off (v := (.val (.bool p_o.Asked))) (by rfl) (by rfl) (E_load (by kernel_rfl)) rfl rfl ?_
                          refine X_op (w := (.val (.bool true))) (v := (.val (.bool true))) (E_pickT (by kernel_rfl) (by kernel_rfl)) rfl rfl rfl ?_
                          refine X_nil (m := [(102, (.val (.bool true))), (9, (.box [1002] 0)), (8, (.val (.bool false))), (4, (.box [1001] 0)), (1, (.val (.int .i64 p_qty))), (2, (.val (.int .i64 p_price))), (3, (.val (.int .i64 p_seq)))]) (by exact ⟨rfl, rfl, rfl, rfl, rfl, rfl, rfl, trivial⟩) ?_
                          exact q_some fun h => (QN_then : QN _ _) _ _ (by exact Sub_keep ⟨.refl _, .refl _, .refl _, .refl _, .refl _, .refl _, .refl _, trivial⟩ ⟨⟨_, (by kernel_rfl), .refl _⟩, ⟨_, (by kernel_rfl), .refl _⟩, trivial⟩ (by kernel_rfl) (by kernel_rfl)) h
                        · refine X_lit (t := 99) (v := false) rfl h33 ?_
                          refine X_op (w := (.may true (.box [1001] 11))) (v := (.box [1001] 11)) (E_p (by kernel_rfl)) rfl rfl rfl ?_
                          refine X_op (w := (.may true (.val (.bool p_o.Asked)))) (v := (.val (.bool p_o.Asked))) (E_load (by kernel_rfl)) rfl rfl rfl ?_
                          refine X_op (w := (.val (.bool p_o.Asked))) (v := (.val (.bool p_o.Asked))) (E_pickF (by kernel_rfl) (by kernel_rfl)) rfl rfl rfl ?_
                          refine X_nil (m := [(102, (.val (.bool p_o.Asked))), (9, (.box [1002] 0)), (8, (.val (.bool false))), (4, (.box [1001] 0)), (1, (.val (.int .i64 p_qty))), (2, (.val (.int .i64 p_price))), (3, (.val (.int .i64 p_seq)))]) (by exact ⟨rfl, rfl, rfl, rfl, rfl, rfl, rfl, trivial⟩) ?_
                          exact q_some fun h => (QN_then : QN _ _) _ _ (by exact Sub_keep ⟨.refl _, .refl _, .refl _, .refl _, .refl _, .refl _, .refl _, trivial⟩ ⟨⟨_, (by kernel_rfl), .refl _⟩, ⟨_, (by kernel_rfl), .refl _⟩, trivial⟩ (by kernel_rfl) (by kernel_rfl)) h
                    · refine X_litM (t := 90) (v := false) rfl h31 ?_
                      refine X_off (v := (.val (.int .i64 v11.2))) (by rfl) (by rfl) (E_p (by kernel_rfl)) rfl rfl ?_
                      refine X_off (v := (.val (.bool (v11.2 == 0)))) (by rfl) (by rfl) (E_p (by kernel_rfl)) rfl rfl ?_
                      refine X_op (w := (.may true (.val (.bool false)))) (v := (.val (.bool false))) (E_pickF (by kernel_rfl) (by kernel_rfl)) rfl rfl rfl ?_
                      refine X_op (w := (.val (.bool false))) (v := (.val (.bool false))) (E_pickF (by kernel_rfl) (by kernel_rfl)) rfl rfl rfl ?_
                      refine X_op (w := (.val (.bool false))) (v := (.val (.bool false))) (E_p (by kernel_rfl)) rfl rfl rfl ?_
                      refine X_op (w := (.may true (.val (.int .i64 v12.2)))) (v := (.val (.int .i64 v12.2))) (E_p (by kernel_rfl)) rfl rfl rfl ?_
                      refine X_op (w := (.may true (.val (.bool (v12.2 == 0))))) (v := (.val (.bool (v12.2 == 0)))) (E_p (by kernel_rfl)) rfl rfl rfl ?_
                      refine X_op (w := (.val (.bool (v12.2 == 0)))) (v := (.val (.bool (v12.2 == 0)))) (E_pickF (by kernel_rfl) (by kernel_rfl)) rfl rfl rfl ?_
                      refine X_op (w := (.val (.bool (v12.2 == 0)))) (v := (.val (.bool (v12.2 == 0)))) (E_p (by kernel_rfl)) rfl rfl rfl ?_
                      refine q_bif (fun h34 => ?_) (fun h34 => ?_)
                      · refine X_lit (t := 99) (v := true) rfl h34 ?_
                        refine X_off (v := (.box [1001] 11)) (by rfl) (by rfl) (E_p (by kernel_rfl)) rfl rfl ?_
                        refine X_off (v := (.val (.bool p_o.Asked))) (by rfl) (by rfl) (E_load (by kernel_rfl)) rfl rfl ?_
                        refine X_op (w := (.val (.bool true))) (v := (.val (.bool true))) (E_pickT (by kernel_rfl) (by kernel_rfl)) rfl rfl rfl ?_
                        refine X_nil (m := [(102, (.val (.bool true))), (9, (.box [1002] 0)), (8, (.val (.bool false))), (4, (.box [1001] 0)), (1, (.val (.int .i64 p_qty))), (2, (.val (.int .i64 p_price))), (3, (.val (.int .i64 p_seq)))]) (by exact ⟨rfl, rfl, rfl, rfl, rfl, rfl, rfl, trivial⟩) ?_
                        exact q_some fun h => (QN_then : QN _ _) _ _ (by exact Sub_keep ⟨.refl _, .refl _, .refl _, .refl _, .refl _, .refl _, .refl _, trivial⟩ ⟨⟨_, (by kernel_rfl), .refl _⟩, ⟨_, (by kernel_rfl), .refl _⟩, trivial⟩ (by kernel_rfl) (by kernel_rfl)) h
                      · refine X_lit (t := 99) (v := false) rfl h34 ?_
                        refine X_op (w := (.may true (.box [1001] 11))) (v := (.box [1001] 11)) (E_p (by kernel_rfl)) rfl rfl rfl ?_
                        refine X_op (w := (.may true (.val (.bool p_o.Asked)))) (v := (.val (.bool p_o.Asked))) (E_load (by kernel_rfl)) rfl rfl rfl ?_
                        refine X_op (w := (.val (.bool p_o.Asked))) (v := (.val (.bool p_o.Asked))) (E_pickF (by kernel_rfl) (by kernel_rfl)) rfl rfl rfl ?_
                        refine X_nil (m := [(102, (.val (.bool p_o.Asked))), (9, (.box [1002] 0)), (8, (.val (.bool false))), (4, (.box [1001] 0)), (1, (.val (.int .i64 p_qty))), (2, (.val (.int .i64 p_price))), (3, (.val (.int .i64 p_seq)))]) (by exact ⟨rfl, rfl, rfl, rfl, rfl, rfl, rfl, trivial⟩) ?_
                        exact q_some fun h => (QN_then : QN _ _) _ _ (by exact Sub_keep ⟨.refl _, .refl _, .refl _, .refl _, .refl _, .refl _, .refl _, trivial⟩ ⟨⟨_, (by kernel_rfl), .refl _⟩, ⟨_, (by kernel_rfl), .refl _⟩, trivial⟩ (by kernel_rfl) (by kernel_rfl)) h
      · refine q_two ((!v2) || (decide (p_seq < 1))) (fun h6 => ?_) (fun h6 => ?_)
        · refine G_subR (Sub_lit (t := 31) (v := true) rfl h6) ?_
          refine G_off rfl rfl ?_
          refine G_off rfl rfl ?_
          refine G_op [0] (v := (.val (.bool true))) (E_p (by kernel_rfl)) rfl rfl ?_
          exact q_some fun h => RP_sub (by exact Sub_env ⟨(Wk_or1 h6), .refl _, .refl _, .refl _, .refl _, .refl _, trivial⟩) h
        · refine G_subR (Sub_lit (t := 31) (v := false) rfl h6) ?_
          refine G_op [0] (v := (.val (.int .i64 p_seq))) (E_p (by kernel_rfl)) rfl rfl ?_
          refine G_op [0] (v := (.val (.bool (decide (p_seq > 1000))))) (E_p (by kernel_rfl)) rfl rfl ?_
          refine G_op [0] (v := (.val (.bool (decide (p_seq > 1000))))) (E_p (by kernel_rfl)) rfl rfl ?_
          exact q_some fun h => RP_sub (by exact Sub_env ⟨(Wk_or0 h6), .refl _, .refl _, .refl _, .refl _, .refl _, trivial⟩) h
    · refine q_two (!v2) (fun h3 => ?_) (fun h3 => ?_)
      · refine G_subR (Sub_lit (t := 27) (v := true) rfl h3) ?_
        refine G_off rfl rfl ?_
        refine G_off rfl rfl ?_
        refine G_op [0] (v := (.val (.bool true))) (E_p (by kernel_rfl)) rfl rfl ?_
        exact q_some fun h => RP_sub (by exact Sub_env ⟨(Wk_or1 h3), .refl _, .refl _, .refl _, .refl _, .refl _, trivial⟩) h
      · refine G_subR (Sub_lit (t := 27) (v := false) rfl h3) ?_
        refine G_op [0] (v := (.val (.int .i64 p_seq))) (E_p (by kernel_rfl)) rfl rfl ?_
        refine G_op [0] (v := (.val (.bool (decide (p_seq < 1))))) (E_p (by kernel_rfl)) rfl rfl ?_
        refine G_op [0] (v := (.val (.bool (decide (p_seq < 1))))) (E_p (by kernel_rfl)) rfl rfl ?_
        exact q_some fun h => RP_sub (by exact Sub_env ⟨(Wk_or0 h3), .refl _, .refl _, .refl _, .refl _, .refl _, trivial⟩) h
theorem s12 (x0 : OrderT) (x1 : Int) (x2 : Int) (x3 : Int) (ds : List DV) (hd : List.map z1 ds = List.map z1 [.agg (e_OrderT x0), .int .i64 x1, .int .i64 x2, .int .i64 x3]) : sp12 ds = (g_snafflelaw07_OrderAsks x0 x1 x2 x3).map fun r => .bool r :=
  specT_at (ea := fun (a : OrderT × Int × Int × Int) => [.agg (e_OrderT a.1), .int .i64 a.2.1, .int .i64 a.2.2.1, .int .i64 a.2.2.2]) (eb := fun (r : Bool) => .bool r) (g := fun (a : OrderT × Int × Int × Int) => g_snafflelaw07_OrderAsks a.1 a.2.1 a.2.2.1 a.2.2.2) inj12 (x0, x1, x2, x3) hd
end Go.AI
