import Derived.Test.YtpolaeonmmolnaaLd
namespace Go.AI
open Go.Proofs
set_option linter.unusedVariables false
set_option linter.unusedSimpArgs false
def t44_2 : List AIns := (⟨(some 63), (.p (.pick (.t 54) (.c (.bool true)) (.t 62))), none⟩ :: [])
def t44_4 : List AIns := (⟨(some 100), (.p (.mv (.t 99))), none⟩ :: ⟨(some 101), (.p (.foff 1 (.t 3))), (some (100, true))⟩ :: ⟨(some 102), (.r (.load 1 false (.t 101))), (some (100, true))⟩ :: ⟨(some 103), (.p (.bin .eql (.t 102) (.c (.int .i64 6)))), (some (100, true))⟩ :: ⟨(some 104), (.p (.pick (.t 100) (.t 103) (.c (.bool false)))), none⟩ :: [])
def t44_3 : List AIns := (⟨(some 72), (.p (.mv (.t 71))), none⟩ :: ⟨(some 73), (.p (.foff 3 (.t 3))), (some (72, true))⟩ :: ⟨(some 74), (.r (.load 1 false (.t 73))), (some (72, true))⟩ :: ⟨(some 75), (.p (.mv (.t 6))), (some (72, true))⟩ :: ⟨(some 76), (.p (.bin .leq (.t 74) (.t 75))), (some (72, true))⟩ :: ⟨(some 77), (.p (.pick (.t 72) (.t 76) (.c (.bool false)))), none⟩ :: [])
def t44_0 : List AIns := (⟨(some 19), (.p (.mv (.t 18))), none⟩ :: ⟨(some 20), (.p (.foff 2 (.t 3))), (some (19, false))⟩ :: ⟨(some 21), (.r (.load 1 false (.t 20))), (some (19, false))⟩ :: ⟨(some 22), (.p (.foff 0 (.t 2))), (some (19, false))⟩ :: ⟨(some 23), (.r (.load 1 false (.t 22))), (some (19, false))⟩ :: ⟨(some 24), (.p (.bin .neq (.t 21) (.t 23))), (some (19, false))⟩ :: ⟨(some 25), (.p (.pick (.t 19) (.c (.bool true)) (.t 24))), none⟩ :: [])
def t44_8 : List AIns := (⟨(some 133), (.p (.mv (.t 132))), none⟩ :: ⟨(some 134), (.p (.foff 3 (.t 3))), (some (133, true))⟩ :: ⟨(some 135), (.r (.load 1 false (.t 134))), (some (133, true))⟩ :: ⟨(some 136), (.p (.foff 6 (.t 2))), (some (133, true))⟩ :: ⟨(some 137), (.r (.load 1 false (.t 136))), (some (133, true))⟩ :: ⟨(some 138), (.p (.bin .gtr (.t 135) (.t 137))), (some (133, true))⟩ :: ⟨(some 139), (.p (.pick (.t 133) (.t 138) (.c (.bool false)))), none⟩ :: [])
def t44_1 : List AIns := (⟨(some 54), (.p (.mv (.t 53))), none⟩ :: ⟨(some 55), (.p (.foff 7 (.t 2))), (some (54, false))⟩ :: ⟨(some 56), (.r (.load 1 false (.t 55))), (some (54, false))⟩ :: ⟨(some 57), (.p (.bin .eql (.t 56) (.c (.int .i64 2)))), (some (54, false))⟩ :: ⟨(some 58), (.p (.mv (.t 57))), (some (54, false))⟩ :: ⟨(some 59), (.p (.foff 1 (.t 3))), (some (58, true))⟩ :: ⟨(some 60), (.r (.load 1 false (.t 59))), (some (58, true))⟩ :: ⟨(some 61), (.p (.bin .eql (.t 60) (.c (.int .i64 4)))), (some (58, true))⟩ :: ⟨(some 62), (.p (.pick (.t 58) (.t 61) (.c (.bool false)))), (some (54, false))⟩ :: t44_2)
def t44_7 : List AIns := (⟨(some 126), (.p (.mv (.t 125))), none⟩ :: ⟨(some 127), (.p (.foff 4 (.t 3))), (some (126, true))⟩ :: ⟨(some 128), (.r (.load 1 false (.t 127))), (some (126, true))⟩ :: ⟨(some 129), (.p (.foff 9 (.t 2))), (some (126, true))⟩ :: ⟨(some 130), (.r (.load 1 false (.t 129))), (some (126, true))⟩ :: ⟨(some 131), (.p (.bin .eql (.t 128) (.t 130))), (some (126, true))⟩ :: ⟨(some 132), (.p (.pick (.t 126) (.t 131) (.c (.bool false)))), none⟩ :: t44_8)
def t44_6 : List AIns := (⟨(some 119), (.p (.mv (.t 118))), none⟩ :: ⟨(some 120), (.p (.foff 3 (.t 3))), (some (119, true))⟩ :: ⟨(some 121), (.r (.load 1 false (.t 120))), (some (119, true))⟩ :: ⟨(some 122), (.p (.foff 8 (.t 2))), (some (119, true))⟩ :: ⟨(some 123), (.r (.load 1 false (.t 122))), (some (119, true))⟩ :: ⟨(some 124), (.p (.bin .eql (.t 121) (.t 123))), (some (119, true))⟩ :: ⟨(some 125), (.p (.pick (.t 119) (.t 124) (.c (.bool false)))), none⟩ :: t44_7)
def t44_5 : List AIns := (⟨(some 114), (.p (.mv (.t 113))), none⟩ :: ⟨(some 115), (.p (.foff 1 (.t 3))), (some (114, true))⟩ :: ⟨(some 116), (.r (.load 1 false (.t 115))), (some (114, true))⟩ :: ⟨(some 117), (.p (.bin .eql (.t 116) (.c (.int .i64 5)))), (some (114, true))⟩ :: ⟨(some 118), (.p (.pick (.t 114) (.t 117) (.c (.bool false)))), none⟩ :: t44_6)
def k44_0 : ACode := (.region (⟨(some 2), (.a (.bx (.t 0))), none⟩ :: ⟨(some 3), (.a (.bx (.t 1))), none⟩ :: ⟨(some 4), (.a (.alloc [(.int .i64 0), (.int .i64 0), (.int .i64 0), (.int .i64 0), (.int .i64 0), (.int .i64 0), (.int .i64 0), (.int .i64 0), (.int .i64 0), (.int .i64 0), (.int .i64 0), (.bool false)])), none⟩ :: ⟨(some 5), (.p (.mv (.c (.int .i64 0)))), none⟩ :: []))
def k44_1 : ACode := (.region (⟨(some 10), (.r (.load 12 true (.t 2))), none⟩ :: ⟨(some 11), (.r (.call 42 [(.t 10)])), none⟩ :: ⟨(some 12), (.p (.un .not (.t 11))), none⟩ :: ⟨(some 13), (.p (.mv (.t 12))), none⟩ :: ⟨(some 14), (.r (.load 5 true (.t 3))), (some (13, false))⟩ :: ⟨(some 15), (.r (.call 72 [(.t 14)])), (some (13, false))⟩ :: ⟨(some 16), (.r (.call 66 [(.t 15)])), (some (13, false))⟩ :: ⟨(some 17), (.p (.un .not (.t 16))), (some (13, false))⟩ :: ⟨(some 18), (.p (.pick (.t 13) (.c (.bool true)) (.t 17))), none⟩ :: t44_0))
def k44_2 : ACode := (.seq (.region (⟨(some 26), (.r (.load 12 true (.t 2))), none⟩ :: ⟨none, (.w (.store 12 (.t 4) (.t 26))), none⟩ :: ⟨(some 5), (.p (.mv (.c (.int .i64 1)))), none⟩ :: [])) .ret)
def k44_3 : ACode := (.cond (.t 25) k44_2 .skip)
def k44_4 : ACode := (.seq k44_1 k44_3)
def k44_5 : ACode := (.region (⟨(some 27), (.p (.foff 4 (.t 2))), none⟩ :: ⟨(some 28), (.r (.load 1 false (.t 27))), none⟩ :: ⟨(some 29), (.p (.foff 6 (.t 2))), none⟩ :: ⟨(some 30), (.r (.load 1 false (.t 29))), none⟩ :: ⟨(some 31), (.p (.bin .sub (.t 28) (.t 30))), none⟩ :: ⟨(some 6), (.p (.mv (.t 31))), none⟩ :: []))
def k44_6 : ACode := (.region (⟨(some 32), (.p (.foff 8 (.t 2))), none⟩ :: ⟨(some 33), (.r (.load 1 false (.t 32))), none⟩ :: ⟨(some 34), (.p (.bin .gtr (.t 33) (.c (.int .i64 0)))), none⟩ :: ⟨(some 7), (.p (.mv (.t 34))), none⟩ :: []))
def k44_7 : ACode := (.region (⟨(some 36), (.p (.foff 7 (.t 2))), none⟩ :: ⟨(some 37), (.r (.load 1 false (.t 36))), none⟩ :: ⟨(some 38), (.p (.bin .eql (.t 37) (.c (.int .i64 1)))), none⟩ :: ⟨(some 39), (.p (.mv (.t 38))), none⟩ :: ⟨(some 40), (.p (.foff 1 (.t 3))), (some (39, true))⟩ :: ⟨(some 41), (.r (.load 1 false (.t 40))), (some (39, true))⟩ :: ⟨(some 42), (.p (.bin .eql (.t 41) (.c (.int .i64 1)))), (some (39, true))⟩ :: ⟨(some 43), (.p (.pick (.t 39) (.t 42) (.c (.bool false)))), none⟩ :: []))
def k44_8 : ACode := (.seq (.region (⟨(some 45), (.r (.load 12 true (.t 9))), none⟩ :: ⟨none, (.w (.store 12 (.t 4) (.t 45))), none⟩ :: ⟨(some 5), (.p (.mv (.c (.int .i64 0)))), none⟩ :: [])) .ret)
def k44_9 : ACode := (.seq (.region (⟨(some 44), (.p (.foff 7 (.t 9))), none⟩ :: ⟨none, (.w (.store 1 (.t 44) (.c (.int .i64 2)))), none⟩ :: [])) k44_8)
def k44_10 : ACode := (.cond (.t 43) k44_9 .skip)
def k44_11 : ACode := (.seq k44_7 k44_10)
def k44_12 : ACode := (.region (⟨(some 46), (.p (.foff 7 (.t 2))), none⟩ :: ⟨(some 47), (.r (.load 1 false (.t 46))), none⟩ :: ⟨(some 48), (.p (.bin .eql (.t 47) (.c (.int .i64 1)))), none⟩ :: ⟨(some 49), (.p (.mv (.t 48))), none⟩ :: ⟨(some 50), (.p (.foff 1 (.t 3))), (some (49, true))⟩ :: ⟨(some 51), (.r (.load 1 false (.t 50))), (some (49, true))⟩ :: ⟨(some 52), (.p (.bin .eql (.t 51) (.c (.int .i64 2)))), (some (49, true))⟩ :: ⟨(some 53), (.p (.pick (.t 49) (.t 52) (.c (.bool false)))), none⟩ :: t44_1))
def k44_13 : ACode := (.seq k44_12 (.cond (.t 63) (.region (⟨(some 8), (.p (.mv (.c (.bool true)))), none⟩ :: [])) .skip))
def k44_14 : ACode := (.region (⟨(some 64), (.p (.foff 7 (.t 2))), none⟩ :: ⟨(some 65), (.r (.load 1 false (.t 64))), none⟩ :: ⟨(some 66), (.p (.bin .eql (.t 65) (.c (.int .i64 2)))), none⟩ :: ⟨(some 67), (.p (.mv (.t 66))), none⟩ :: ⟨(some 68), (.p (.foff 1 (.t 3))), (some (67, true))⟩ :: ⟨(some 69), (.r (.load 1 false (.t 68))), (some (67, true))⟩ :: ⟨(some 70), (.p (.bin .eql (.t 69) (.c (.int .i64 3)))), (some (67, true))⟩ :: ⟨(some 71), (.p (.pick (.t 67) (.t 70) (.c (.bool false)))), none⟩ :: t44_3))
def k44_15 : ACode := (.region (⟨(some 78), (.p (.foff 6 (.t 2))), none⟩ :: ⟨(some 79), (.r (.load 1 false (.t 78))), none⟩ :: ⟨(some 80), (.p (.foff 3 (.t 3))), none⟩ :: ⟨(some 81), (.r (.load 1 false (.t 80))), none⟩ :: ⟨(some 82), (.p (.bin .add (.t 79) (.t 81))), none⟩ :: ⟨(some 83), (.p (.foff 6 (.t 9))), none⟩ :: ⟨none, (.w (.store 1 (.t 83) (.t 82))), none⟩ :: []))
def k44_16 : ACode := (.region (⟨(some 84), (.p (.foff 3 (.t 3))), none⟩ :: ⟨(some 85), (.r (.load 1 false (.t 84))), none⟩ :: ⟨(some 86), (.p (.mv (.t 6))), none⟩ :: ⟨(some 87), (.p (.bin .lss (.t 85) (.t 86))), none⟩ :: []))
def k44_17 : ACode := (.seq (.region (⟨(some 88), (.r (.load 12 true (.t 9))), none⟩ :: ⟨none, (.w (.store 12 (.t 4) (.t 88))), none⟩ :: ⟨(some 5), (.p (.mv (.c (.int .i64 0)))), none⟩ :: [])) .ret)
def k44_18 : ACode := (.cond (.t 87) k44_17 .skip)
def k44_19 : ACode := (.seq k44_16 k44_18)
def k44_20 : ACode := (.seq k44_19 (.region (⟨(some 8), (.p (.mv (.c (.bool true)))), none⟩ :: [])))
def k44_21 : ACode := (.seq k44_15 k44_20)
def k44_22 : ACode := (.cond (.t 77) k44_21 .skip)
def k44_23 : ACode := (.seq k44_14 k44_22)
def k44_24 : ACode := (.seq (.region (⟨(some 93), (.r (.load 12 true (.t 9))), none⟩ :: ⟨none, (.w (.store 12 (.t 4) (.t 93))), none⟩ :: ⟨(some 5), (.p (.mv (.c (.int .i64 0)))), none⟩ :: [])) .ret)
def k44_25 : ACode := (.seq (.region (⟨(some 92), (.p (.foff 9 (.t 9))), none⟩ :: ⟨none, (.w (.store 1 (.t 92) (.c (.int .i64 0)))), none⟩ :: [])) k44_24)
def k44_26 : ACode := (.seq (.region (⟨(some 91), (.p (.foff 8 (.t 9))), none⟩ :: ⟨none, (.w (.store 1 (.t 91) (.c (.int .i64 0)))), none⟩ :: [])) k44_25)
def k44_27 : ACode := (.seq (.region (⟨(some 90), (.p (.foff 7 (.t 9))), none⟩ :: ⟨none, (.w (.store 1 (.t 90) (.c (.int .i64 3)))), none⟩ :: [])) k44_26)
def k44_28 : ACode := (.cond (.t 89) k44_27 .skip)
def k44_29 : ACode := (.seq (.region (⟨(some 89), (.p (.mv (.t 8))), none⟩ :: [])) k44_28)
def k44_30 : ACode := (.region (⟨(some 94), (.p (.foff 7 (.t 2))), none⟩ :: ⟨(some 95), (.r (.load 1 false (.t 94))), none⟩ :: ⟨(some 96), (.p (.bin .eql (.t 95) (.c (.int .i64 2)))), none⟩ :: ⟨(some 97), (.p (.mv (.t 96))), none⟩ :: ⟨(some 98), (.p (.mv (.t 7))), (some (97, true))⟩ :: ⟨(some 99), (.p (.pick (.t 97) (.t 98) (.c (.bool false)))), none⟩ :: t44_4))
def k44_31 : ACode := (.seq (.region (⟨(some 107), (.r (.load 12 true (.t 9))), none⟩ :: ⟨none, (.w (.store 12 (.t 4) (.t 107))), none⟩ :: ⟨(some 5), (.p (.mv (.c (.int .i64 0)))), none⟩ :: [])) .ret)
def k44_32 : ACode := (.seq (.region (⟨(some 106), (.p (.foff 9 (.t 9))), none⟩ :: ⟨none, (.w (.store 1 (.t 106) (.c (.int .i64 0)))), none⟩ :: [])) k44_31)
def k44_33 : ACode := (.seq (.region (⟨(some 105), (.p (.foff 8 (.t 9))), none⟩ :: ⟨none, (.w (.store 1 (.t 105) (.c (.int .i64 0)))), none⟩ :: [])) k44_32)
def k44_34 : ACode := (.cond (.t 104) k44_33 .skip)
def k44_35 : ACode := (.seq k44_30 k44_34)
def k44_36 : ACode := (.region (⟨(some 108), (.p (.foff 7 (.t 2))), none⟩ :: ⟨(some 109), (.r (.load 1 false (.t 108))), none⟩ :: ⟨(some 110), (.p (.bin .eql (.t 109) (.c (.int .i64 2)))), none⟩ :: ⟨(some 111), (.p (.mv (.t 110))), none⟩ :: ⟨(some 112), (.p (.mv (.t 7))), (some (111, true))⟩ :: ⟨(some 113), (.p (.pick (.t 111) (.t 112) (.c (.bool false)))), none⟩ :: t44_5))
def k44_37 : ACode := (.region (⟨(some 140), (.p (.foff 3 (.t 3))), none⟩ :: ⟨(some 141), (.r (.load 1 false (.t 140))), none⟩ :: ⟨(some 142), (.p (.foff 4 (.t 9))), none⟩ :: ⟨none, (.w (.store 1 (.t 142) (.t 141))), none⟩ :: []))
def k44_38 : ACode := (.region (⟨(some 143), (.p (.foff 4 (.t 3))), none⟩ :: ⟨(some 144), (.r (.load 1 false (.t 143))), none⟩ :: ⟨(some 145), (.p (.foff 5 (.t 9))), none⟩ :: ⟨none, (.w (.store 1 (.t 145) (.t 144))), none⟩ :: []))
def k44_39 : ACode := (.seq (.region (⟨(some 148), (.r (.load 12 true (.t 9))), none⟩ :: ⟨none, (.w (.store 12 (.t 4) (.t 148))), none⟩ :: ⟨(some 5), (.p (.mv (.c (.int .i64 0)))), none⟩ :: [])) .ret)
def k44_40 : ACode := (.seq (.region (⟨(some 147), (.p (.foff 9 (.t 9))), none⟩ :: ⟨none, (.w (.store 1 (.t 147) (.c (.int .i64 0)))), none⟩ :: [])) k44_39)
def k44_41 : ACode := (.seq (.region (⟨(some 146), (.p (.foff 8 (.t 9))), none⟩ :: ⟨none, (.w (.store 1 (.t 146) (.c (.int .i64 0)))), none⟩ :: [])) k44_40)
def k44_42 : ACode := (.seq k44_38 k44_41)
def k44_43 : ACode := (.seq k44_37 k44_42)
def k44_44 : ACode := (.cond (.t 139) k44_43 .skip)
def k44_45 : ACode := (.seq k44_36 k44_44)
def k44_46 : ACode := (.seq (.region (⟨(some 149), (.r (.load 12 true (.t 2))), none⟩ :: ⟨none, (.w (.store 12 (.t 4) (.t 149))), none⟩ :: ⟨(some 5), (.p (.mv (.c (.int .i64 8)))), none⟩ :: [])) .ret)
def k44_47 : ACode := (.seq k44_45 k44_46)
def k44_48 : ACode := (.seq k44_35 k44_47)
def k44_49 : ACode := (.seq k44_29 k44_48)
def k44_50 : ACode := (.seq k44_23 k44_49)
def k44_51 : ACode := (.seq k44_13 k44_50)
def k44_52 : ACode := (.seq k44_11 k44_51)
def k44_53 : ACode := (.seq (.region (⟨(some 35), (.r (.load 12 true (.t 2))), none⟩ :: ⟨(some 9), (.a (.alloc [(.int .i64 0), (.int .i64 0), (.int .i64 0), (.int .i64 0), (.int .i64 0), (.int .i64 0), (.int .i64 0), (.int .i64 0), (.int .i64 0), (.int .i64 0), (.int .i64 0), (.bool false)])), none⟩ :: ⟨none, (.w (.store 12 (.t 9) (.t 35))), none⟩ :: [])) k44_52)
def k44_54 : ACode := (.seq (.region (⟨(some 8), (.p (.mv (.c (.bool false)))), none⟩ :: [])) k44_53)
def k44_55 : ACode := (.seq k44_6 k44_54)
def k44_56 : ACode := (.seq k44_5 k44_55)
def k44_57 : ACode := (.seq k44_4 k44_56)
def cd44 : ACode := (.seq k44_0 k44_57)
def rs44 : List ARes := [(.cell 4 12 true), (.tmp 5)]
def af44 : AFn := ⟨cd44, rs44, 150⟩
theorem c44 : compF Try.prog 44 = some af44 := by kernel_rfl
noncomputable def g_snaffleref07_Take (p_o : OrderT) (p_n : NoteT) : Option (OrderT × Int) := (Option.bind (g_snaffleref07_Right p_o) fun v1 => (Option.bind (bif (!v1) then (some true) else (Option.bind (g_snaffleref06_OfNote p_n) fun v51 => (Option.bind (g_snaffleref06_Right v51) fun v52 => (some (!v52))))) fun (b3 : Bool) => (bif (b3 || (p_n.Order != p_o.Id)) then (some (p_o, 1)) else (bif ((p_o.Phase == 1) && (p_n.What == 1)) then (some ((OrderT.mk p_o.Id p_o.Account p_o.Symbol p_o.Side p_o.Qty p_o.Price p_o.Filled 2 p_o.NewQty p_o.NewPrice p_o.Version p_o.Asked), 0)) else (Option.bind ((bif (((p_o.Phase == 1) && (p_n.What == 2)) || ((p_o.Phase == 2) && (p_n.What == 4))) then (some true) else (some false)) : Option (Bool)) (fun (j17 : Bool) => (Option.bind ((bif (((p_o.Phase == 2) && (p_n.What == 3)) && (decide (p_n.Qty ≤ (IntKind.wrap .i64 (p_o.Qty - p_o.Filled))))) then (bif (decide (p_n.Qty < (IntKind.wrap .i64 (p_o.Qty - p_o.Filled)))) then (some (.inr ((OrderT.mk p_o.Id p_o.Account p_o.Symbol p_o.Side p_o.Qty p_o.Price (IntKind.wrap .i64 (p_o.Filled + p_n.Qty)) p_o.Phase p_o.NewQty p_o.NewPrice p_o.Version p_o.Asked), 0))) else (some (.inl (true, (IntKind.wrap .i64 (p_o.Filled + p_n.Qty)))))) else (some (.inl (j17, p_o.Filled)))) : Option ((Bool × Int) ⊕ ((OrderT × Int)))) (outE (fun (j25 : Bool × Int) => (bif j25.1 then (some ((OrderT.mk p_o.Id p_o.Account p_o.Symbol p_o.Side p_o.Qty p_o.Price j25.2 3 0 0 p_o.Version p_o.Asked), 0)) else (bif (((p_o.Phase == 2) && (decide (p_o.NewQty > 0))) && (p_n.What == 6)) then (some ((OrderT.mk p_o.Id p_o.Account p_o.Symbol p_o.Side p_o.Qty p_o.Price j25.2 p_o.Phase 0 0 p_o.Version p_o.Asked), 0)) else (bif ((((((p_o.Phase == 2) && (decide (p_o.NewQty > 0))) && (p_n.What == 5)) && (p_n.Qty == p_o.NewQty)) && (p_n.Price == p_o.NewPrice)) && (decide (p_n.Qty > p_o.Filled))) then (some ((OrderT.mk p_o.Id p_o.Account p_o.Symbol p_o.Side p_n.Qty p_n.Price j25.2 p_o.Phase 0 0 p_o.Version p_o.Asked), 0)) else (some (p_o, 8))))))))))))))
noncomputable def sp44 : List DV → Option DV := specT (fun (a : OrderT × NoteT) => [.agg (e_OrderT a.1), .agg (e_NoteT a.2)]) (fun (r : (OrderT × Int)) => .tup [.agg (e_OrderT r.1), .int .i64 r.2]) (fun (a : OrderT × NoteT) => g_snaffleref07_Take a.1 a.2)
theorem inj44 : ∀ (a b : OrderT × NoteT), List.map z1 ((fun (a : OrderT × NoteT) => [.agg (e_OrderT a.1), .agg (e_NoteT a.2)]) a) = List.map z1 ((fun (a : OrderT × NoteT) => [.agg (e_OrderT a.1), .agg (e_NoteT a.2)]) b) → a = b := by
 rintro ⟨a0, a1⟩ ⟨b0, b1⟩ h
 simp only [List.map_cons, List.map_nil, List.cons.injEq, and_true] at h
 obtain ⟨h0, h1⟩ := h
 exact (pair_eq (e_OrderT_inj (DV.agg.inj h0)) (e_NoteT_inj (DV.agg.inj h1)))
set_option maxHeartbeats 1000000 in
theorem w44 {C : FuncId → Con} (hC : ConOk Try.prog C) {q42 : List DV → Option DV} (hc42 : C 42 = .val q42) (hs42 : ∀ (x0 : OrderT) (ds : List DV), List.map z1 ds = List.map z1 [.agg (e_OrderT x0)] → q42 ds = (g_snaffleref07_Right x0).map fun r => .bool r) {q72 : List DV → Option DV} (hc72 : C 72 = .val q72) (hs72 : ∀ (x0 : NoteT) (ds : List DV), List.map z1 ds = List.map z1 [.agg (e_NoteT x0)] → q72 ds = (g_snaffleref06_OfNote x0).map fun r => .agg (e_RecT r)) {q66 : List DV → Option DV} (hc66 : C 66 = .val q66) (hs66 : ∀ (x0 : RecT) (ds : List DV), List.map z1 ds = List.map z1 [.agg (e_RecT x0)] → q66 ds = (g_snaffleref06_Right x0).map fun r => .bool r) : ValOk Try.prog 44 sp44 := by
 refine valT_of hC c44 _ _ _ inj44 ?_
 rintro ⟨p_o, p_n⟩
 show Imq (g_snaffleref07_Take p_o p_n) (fun _ => True) fun r => WP Try.prog C (fun _ => False) cd44 (retQ fun s => outV s rs44 = some (.tup [.agg (e_OrderT r.1), .int .i64 r.2])) ⟨⟨150, [(0, (.val (.agg [(.int .i64 p_o.Id), (.int .i64 p_o.Account), (.int .i64 p_o.Symbol), (.int .i64 p_o.Side), (.int .i64 p_o.Qty), (.int .i64 p_o.Price), (.int .i64 p_o.Filled), (.int .i64 p_o.Phase), (.int .i64 p_o.NewQty), (.int .i64 p_o.NewPrice), (.int .i64 p_o.Version), (.bool p_o.Asked)]))), (1, (.val (.agg [(.int .i64 p_n.Seq), (.int .i64 p_n.What), (.int .i64 p_n.Order), (.int .i64 p_n.Qty), (.int .i64 p_n.Price)])))]⟩, mkH []⟩
 unfold g_snaffleref07_Take
 refine G_seq ?_
 refine G_region ?_
 refine G_op [1001] (v := (.box [1001] 0)) (E_a (u := (.box [1001] 0)) (b := (.box (lOrderT p_o))) (h' := [([1001], (.box (lOrderT p_o)))]) (by kernel_rfl) (by kernel_rfl) (by kernel_rfl)) rfl rfl ?_
 refine G_op [1002] (v := (.box [1002] 0)) (E_a (u := (.box [1002] 0)) (b := (.box (lNoteT p_n))) (h' := [([1001], (.box (lOrderT p_o))), ([1002], (.box (lNoteT p_n)))]) (by kernel_rfl) (by kernel_rfl) (by kernel_rfl)) rfl rfl ?_
 refine G_op [1003] (v := (.box [1003] 0)) (E_a (u := (.box [1003] 0)) (b := (.box zOrderT)) (h' := [([1001], (.box (lOrderT p_o))), ([1002], (.box (lNoteT p_n))), ([1003], (.box zOrderT))]) (by kernel_rfl) (by kernel_rfl) (by kernel_rfl)) rfl rfl ?_
 refine G_op [0] (v := (ii 0)) (E_p (by kernel_rfl)) rfl rfl ?_
 refine G_nil ?_
 refine G_then ?_
 refine G_seq ?_
 refine G_seq ?_
 refine G_region ?_
 refine G_op [0] (v := (.agg (lOrderT p_o))) (E_load (by kernel_rfl)) rfl rfl ?_
 refine q_bind fun v1 hv1 => ?_
 refine G_op [0] (v := (bb v1)) (E_call (ds := [.agg (e_OrderT p_o)]) (r := .bool v1) hc42 (by kernel_rfl) ((hs42 p_o _ (by kernel_rfl)).trans (congrArg _ hv1))) rfl rfl ?_
 refine G_op [0] (v := (bb ((!v1)))) (E_p (by kernel_rfl)) rfl rfl ?_
 refine G_op [0] (v := (bb ((!v1)))) (E_p (by kernel_rfl)) rfl rfl ?_
 refine G_joinR (l := t44_0) (st := fun (b3 : Bool) => ⟨⟨150, [(18, (bb b3)), (5, (ii 0)), (4, (.box [1003] 0)), (3, (.box [1002] 0)), (2, (.box [1001] 0))]⟩, mkH [([1001], (.box (lOrderT p_o))), ([1002], (.box (lNoteT p_n))), ([1003], (.box zOrderT))]⟩) (fun b3 => ?_) (fun r4 hr4 => ?_)
 ·refine G_op [0] (v := (bb b3)) (E_p (by kernel_rfl)) rfl rfl ?_
  refine G_pure (l := []) (st := ⟨⟨150, [(25, (bb ((b3 || (p_n.Order != p_o.Id))))), (5, (ii 0)), (4, (.box [1003] 0)), (3, (.box [1002] 0)), (2, (.box [1001] 0))]⟩, mkH [([1001], (.box (lOrderT p_o))), ([1002], (.box (lNoteT p_n))), ([1003], (.box zOrderT))]⟩) ?_ (fun r7 => ?_)
  ·refine G_nil ?_
   refine G_then ?_
   refine G_cond (t := (b3 || (p_n.Order != p_o.Id))) (by kernel_rfl) (fun _ => ?_) (fun _ => ?_)
   ·refine G_seq ?_
    refine G_region ?_
    refine G_op [0] (v := (.agg (lOrderT p_o))) (E_load (by kernel_rfl)) rfl rfl ?_
    refine G_op0 [0] (v := (.val (.tup []))) (E_store (b := [1003]) (o := 0) (cs := (lOrderT p_o)) (cells := zOrderT) (cells' := (lOrderT p_o)) (h' := [([1001], (.box (lOrderT p_o))), ([1002], (.box (lNoteT p_n))), ([1003], (.box (lOrderT p_o)))]) (by kernel_rfl) (by kernel_rfl) (by kernel_rfl) rfl (by kernel_rfl) (by kernel_rfl) (by kernel_rfl) (by kernel_rfl)) rfl ?_
    refine G_op [0] (v := (ii 1)) (E_p (by kernel_rfl)) rfl rfl ?_
    refine G_nil ?_
    refine G_then ?_
    refine G_ret ?_
    refine G_thenR ?_
    refine G_retR ?_
    refine q_some fun hA => ?_
    show outV _ _ = some _
    kernel_rfl
   ·refine G_skip ?_
    refine G_then ?_
    refine G_seq ?_
    refine G_region ?_
    refine G_op [0] (v := (.box [1001] 4)) (E_p (by kernel_rfl)) rfl rfl ?_
    refine G_op [0] (v := (ii p_o.Qty)) (E_load (by kernel_rfl)) rfl rfl ?_
    refine G_op [0] (v := (.box [1001] 6)) (E_p (by kernel_rfl)) rfl rfl ?_
    refine G_op [0] (v := (ii p_o.Filled)) (E_load (by kernel_rfl)) rfl rfl ?_
    refine G_op [0] (v := (ii ((IntKind.wrap .i64 (p_o.Qty - p_o.Filled))))) (E_p (by kernel_rfl)) rfl rfl ?_
    refine G_op [0] (v := (ii ((IntKind.wrap .i64 (p_o.Qty - p_o.Filled))))) (E_p (by kernel_rfl)) rfl rfl ?_
    refine G_nil ?_
    refine G_then ?_
    refine G_seq ?_
    refine G_region ?_
    refine G_op [0] (v := (.box [1001] 8)) (E_p (by kernel_rfl)) rfl rfl ?_
    refine G_op [0] (v := (ii p_o.NewQty)) (E_load (by kernel_rfl)) rfl rfl ?_
    refine G_op [0] (v := (bb ((decide (p_o.NewQty > 0))))) (E_p (by kernel_rfl)) rfl rfl ?_
    refine G_op [0] (v := (bb ((decide (p_o.NewQty > 0))))) (E_p (by kernel_rfl)) rfl rfl ?_
    refine G_nil ?_
    refine G_then ?_
    refine G_subW (s0 := ⟨⟨150, [(7, (bb ((decide (p_o.NewQty > 0))))), (6, (ii ((IntKind.wrap .i64 (p_o.Qty - p_o.Filled))))), (5, (ii 0)), (4, (.box [1003] 0)), (3, (.box [1002] 0)), (2, (.box [1001] 0))]⟩, mkH [([1001], (.box (lOrderT p_o))), ([1002], (.box (lNoteT p_n))), ([1003], (.box zOrderT))]⟩) (by exact Sub_env ⟨.refl _, .refl _, .refl _, .refl _, .refl _, .refl _, trivial⟩) ?_
    refine G_seq ?_
    refine G_region ?_
    refine G_op [0] (v := (bb false)) (E_p (by kernel_rfl)) rfl rfl ?_
    refine G_nil ?_
    refine G_then ?_
    refine G_seq ?_
    refine G_region ?_
    refine G_op [0] (v := (.agg (lOrderT p_o))) (E_load (by kernel_rfl)) rfl rfl ?_
    refine G_op [1004] (v := (.box [1004] 0)) (E_a (u := (.box [1004] 0)) (b := (.box zOrderT)) (h' := [([1001], (.box (lOrderT p_o))), ([1002], (.box (lNoteT p_n))), ([1003], (.box zOrderT)), ([1004], (.box zOrderT))]) (by kernel_rfl) (by kernel_rfl) (by kernel_rfl)) rfl rfl ?_
    refine G_op0 [0] (v := (.val (.tup []))) (E_store (b := [1004]) (o := 0) (cs := (lOrderT p_o)) (cells := zOrderT) (cells' := (lOrderT p_o)) (h' := [([1001], (.box (lOrderT p_o))), ([1002], (.box (lNoteT p_n))), ([1003], (.box zOrderT)), ([1004], (.box (lOrderT p_o)))]) (by kernel_rfl) (by kernel_rfl) (by kernel_rfl) rfl (by kernel_rfl) (by kernel_rfl) (by kernel_rfl) (by kernel_rfl)) rfl ?_
    refine G_nil ?_
    refine G_then ?_
    refine G_seq ?_
    refine G_seq ?_
    refine G_region ?_
    refine G_op [0] (v := (.box [1001] 7)) (E_p (by kernel_rfl)) rfl rfl ?_
    refine G_op [0] (v := (ii p_o.Phase)) (E_load (by kernel_rfl)) rfl rfl ?_
    refine G_op [0] (v := (bb ((p_o.Phase == 1)))) (E_p (by kernel_rfl)) rfl rfl ?_
    refine G_op [0] (v := (bb ((p_o.Phase == 1)))) (E_p (by kernel_rfl)) rfl rfl ?_
    refine G_pure (l := []) (st := ⟨⟨150, [(43, (bb (((p_o.Phase == 1) && (p_n.What == 1))))), (9, (.box [1004] 0)), (8, (bb false)), (7, (bb ((decide (p_o.NewQty > 0))))), (6, (ii ((IntKind.wrap .i64 (p_o.Qty - p_o.Filled))))), (5, (ii 0)), (4, (.box [1003] 0)), (3, (.box [1002] 0)), (2, (.box [1001] 0))]⟩, mkH [([1001], (.box (lOrderT p_o))), ([1002], (.box (lNoteT p_n))), ([1003], (.box zOrderT)), ([1004], (.box (lOrderT p_o)))]⟩) ?_ (fun r10 => ?_)
    ·refine G_nil ?_
     refine G_then ?_
     refine G_cond (t := ((p_o.Phase == 1) && (p_n.What == 1))) (by kernel_rfl) (fun _ => ?_) (fun _ => ?_)
     ·refine G_seq ?_
      refine G_region ?_
      refine G_op [0] (v := (.box [1004] 7)) (E_p (by kernel_rfl)) rfl rfl ?_
      refine G_op0 [0] (v := (.val (.tup []))) (E_store (b := [1004]) (o := 7) (cs := [(ii 2)]) (cells := (lOrderT p_o)) (cells' := [(ii p_o.Id), (ii p_o.Account), (ii p_o.Symbol), (ii p_o.Side), (ii p_o.Qty), (ii p_o.Price), (ii p_o.Filled), (ii 2), (ii p_o.NewQty), (ii p_o.NewPrice), (ii p_o.Version), (bb p_o.Asked)]) (h' := [([1001], (.box (lOrderT p_o))), ([1002], (.box (lNoteT p_n))), ([1003], (.box zOrderT)), ([1004], (.box [(ii p_o.Id), (ii p_o.Account), (ii p_o.Symbol), (ii p_o.Side), (ii p_o.Qty), (ii p_o.Price), (ii p_o.Filled), (ii 2), (ii p_o.NewQty), (ii p_o.NewPrice), (ii p_o.Version), (bb p_o.Asked)]))]) (by kernel_rfl) (by kernel_rfl) (by kernel_rfl) rfl (by kernel_rfl) (by kernel_rfl) (by kernel_rfl) (by kernel_rfl)) rfl ?_
      refine G_nil ?_
      refine G_then ?_
      refine G_seq ?_
      refine G_region ?_
      refine G_op [0] (v := (.agg [(ii p_o.Id), (ii p_o.Account), (ii p_o.Symbol), (ii p_o.Side), (ii p_o.Qty), (ii p_o.Price), (ii p_o.Filled), (ii 2), (ii p_o.NewQty), (ii p_o.NewPrice), (ii p_o.Version), (bb p_o.Asked)])) (E_load (by kernel_rfl)) rfl rfl ?_
      refine G_op0 [0] (v := (.val (.tup []))) (E_store (b := [1003]) (o := 0) (cs := [(ii p_o.Id), (ii p_o.Account), (ii p_o.Symbol), (ii p_o.Side), (ii p_o.Qty), (ii p_o.Price), (ii p_o.Filled), (ii 2), (ii p_o.NewQty), (ii p_o.NewPrice), (ii p_o.Version), (bb p_o.Asked)]) (cells := zOrderT) (cells' := [(ii p_o.Id), (ii p_o.Account), (ii p_o.Symbol), (ii p_o.Side), (ii p_o.Qty), (ii p_o.Price), (ii p_o.Filled), (ii 2), (ii p_o.NewQty), (ii p_o.NewPrice), (ii p_o.Version), (bb p_o.Asked)]) (h' := [([1001], (.box (lOrderT p_o))), ([1002], (.box (lNoteT p_n))), ([1003], (.box [(ii p_o.Id), (ii p_o.Account), (ii p_o.Symbol), (ii p_o.Side), (ii p_o.Qty), (ii p_o.Price), (ii p_o.Filled), (ii 2), (ii p_o.NewQty), (ii p_o.NewPrice), (ii p_o.Version), (bb p_o.Asked)])), ([1004], (.box [(ii p_o.Id), (ii p_o.Account), (ii p_o.Symbol), (ii p_o.Side), (ii p_o.Qty), (ii p_o.Price), (ii p_o.Filled), (ii 2), (ii p_o.NewQty), (ii p_o.NewPrice), (ii p_o.Version), (bb p_o.Asked)]))]) (by kernel_rfl) (by kernel_rfl) (by kernel_rfl) rfl (by kernel_rfl) (by kernel_rfl) (by kernel_rfl) (by kernel_rfl)) rfl ?_
      refine G_op [0] (v := (ii 0)) (E_p (by kernel_rfl)) rfl rfl ?_
      refine G_nil ?_
      refine G_then ?_
      refine G_ret ?_
      refine G_thenR ?_
      refine G_retR ?_
      refine q_some fun hA => ?_
      show outV _ _ = some _
      kernel_rfl
     ·refine G_skip ?_
      refine G_then ?_
      refine G_seq ?_
      refine G_seq ?_
      refine G_region ?_
      refine G_op [0] (v := (.box [1001] 7)) (E_p (by kernel_rfl)) rfl rfl ?_
      refine G_op [0] (v := (ii p_o.Phase)) (E_load (by kernel_rfl)) rfl rfl ?_
      refine G_op [0] (v := (bb ((p_o.Phase == 1)))) (E_p (by kernel_rfl)) rfl rfl ?_
      refine G_op [0] (v := (bb ((p_o.Phase == 1)))) (E_p (by kernel_rfl)) rfl rfl ?_
      refine G_pure (l := t44_1) (st := ⟨⟨150, [(53, (bb (((p_o.Phase == 1) && (p_n.What == 2))))), (9, (.box [1004] 0)), (8, (bb false)), (7, (bb ((decide (p_o.NewQty > 0))))), (6, (ii ((IntKind.wrap .i64 (p_o.Qty - p_o.Filled))))), (5, (ii 0)), (4, (.box [1003] 0)), (3, (.box [1002] 0)), (2, (.box [1001] 0))]⟩, mkH [([1001], (.box (lOrderT p_o))), ([1002], (.box (lNoteT p_n))), ([1003], (.box zOrderT)), ([1004], (.box (lOrderT p_o)))]⟩) ?_ (fun r13 => ?_)
      ·refine G_op [0] (v := (bb (((p_o.Phase == 1) && (p_n.What == 2))))) (E_p (by kernel_rfl)) rfl rfl ?_
       refine G_pure (l := []) (st := ⟨⟨150, [(63, (bb ((((p_o.Phase == 1) && (p_n.What == 2)) || ((p_o.Phase == 2) && (p_n.What == 4)))))), (9, (.box [1004] 0)), (8, (bb false)), (7, (bb ((decide (p_o.NewQty > 0))))), (6, (ii ((IntKind.wrap .i64 (p_o.Qty - p_o.Filled))))), (5, (ii 0)), (4, (.box [1003] 0)), (3, (.box [1002] 0)), (2, (.box [1001] 0))]⟩, mkH [([1001], (.box (lOrderT p_o))), ([1002], (.box (lNoteT p_n))), ([1003], (.box zOrderT)), ([1004], (.box (lOrderT p_o)))]⟩) ?_ (fun r16 => ?_)
       ·refine G_nil ?_
        refine G_then ?_
        refine G_join (st := fun j17 => ⟨⟨150, [(8, (bb j17)), (9, (.box [1004] 0)), (7, (bb ((decide (p_o.NewQty > 0))))), (6, (ii ((IntKind.wrap .i64 (p_o.Qty - p_o.Filled))))), (5, (ii 0)), (4, (.box [1003] 0)), (3, (.box [1002] 0)), (2, (.box [1001] 0))]⟩, mkH [([1001], (.box (lOrderT p_o))), ([1002], (.box (lNoteT p_n))), ([1003], (.box zOrderT)), ([1004], (.box (lOrderT p_o)))]⟩) (fun j17 => ?_) (fun r18 hr18 => ?_)
        ·refine G_then ?_
         refine G_seq ?_
         refine G_seq ?_
         refine G_region ?_
         refine G_op [0] (v := (.box [1001] 7)) (E_p (by kernel_rfl)) rfl rfl ?_
         refine G_op [0] (v := (ii p_o.Phase)) (E_load (by kernel_rfl)) rfl rfl ?_
         refine G_op [0] (v := (bb ((p_o.Phase == 2)))) (E_p (by kernel_rfl)) rfl rfl ?_
         refine G_op [0] (v := (bb ((p_o.Phase == 2)))) (E_p (by kernel_rfl)) rfl rfl ?_
         refine G_pure (l := t44_3) (st := ⟨⟨150, [(71, (bb (((p_o.Phase == 2) && (p_n.What == 3))))), (8, (bb j17)), (9, (.box [1004] 0)), (7, (bb ((decide (p_o.NewQty > 0))))), (6, (ii ((IntKind.wrap .i64 (p_o.Qty - p_o.Filled))))), (5, (ii 0)), (4, (.box [1003] 0)), (3, (.box [1002] 0)), (2, (.box [1001] 0))]⟩, mkH [([1001], (.box (lOrderT p_o))), ([1002], (.box (lNoteT p_n))), ([1003], (.box zOrderT)), ([1004], (.box (lOrderT p_o)))]⟩) ?_ (fun r21 => ?_)
         ·refine G_op [0] (v := (bb (((p_o.Phase == 2) && (p_n.What == 3))))) (E_p (by kernel_rfl)) rfl rfl ?_
          refine G_pure (l := []) (st := ⟨⟨150, [(77, (bb ((((p_o.Phase == 2) && (p_n.What == 3)) && (decide (p_n.Qty ≤ (IntKind.wrap .i64 (p_o.Qty - p_o.Filled)))))))), (8, (bb j17)), (9, (.box [1004] 0)), (7, (bb ((decide (p_o.NewQty > 0))))), (6, (ii ((IntKind.wrap .i64 (p_o.Qty - p_o.Filled))))), (5, (ii 0)), (4, (.box [1003] 0)), (3, (.box [1002] 0)), (2, (.box [1001] 0))]⟩, mkH [([1001], (.box (lOrderT p_o))), ([1002], (.box (lNoteT p_n))), ([1003], (.box zOrderT)), ([1004], (.box (lOrderT p_o)))]⟩) ?_ (fun r24 => ?_)
          ·refine G_nil ?_
           refine G_then ?_
           refine G_joinX (st := fun j25 => ⟨⟨150, [(8, (bb j25.1)), (9, (.box [1004] 0)), (7, (bb ((decide (p_o.NewQty > 0))))), (5, (ii 0)), (4, (.box [1003] 0)), (3, (.box [1002] 0)), (2, (.box [1001] 0))]⟩, mkH [([1001], (.box (lOrderT p_o))), ([1002], (.box (lNoteT p_n))), ([1003], (.box zOrderT)), ([1004], (.box [(ii p_o.Id), (ii p_o.Account), (ii p_o.Symbol), (ii p_o.Side), (ii p_o.Qty), (ii p_o.Price), (ii j25.2), (ii p_o.Phase), (ii p_o.NewQty), (ii p_o.NewPrice), (ii p_o.Version), (bb p_o.Asked)]))]⟩) (fun j25 => ?_) (fun r26 hr26 => ?_)
           ·refine G_then ?_
            refine G_seq ?_
            refine G_seq ?_
            refine G_region ?_
            refine G_op [0] (v := (bb j25.1)) (E_p (by kernel_rfl)) rfl rfl ?_
            refine G_nil ?_
            refine G_then ?_
            refine G_cond (t := j25.1) (by kernel_rfl) (fun _ => ?_) (fun _ => ?_)
            ·refine G_seq ?_
             refine G_region ?_
             refine G_op [0] (v := (.box [1004] 7)) (E_p (by kernel_rfl)) rfl rfl ?_
             refine G_op0 [0] (v := (.val (.tup []))) (E_store (b := [1004]) (o := 7) (cs := [(ii 3)]) (cells := [(ii p_o.Id), (ii p_o.Account), (ii p_o.Symbol), (ii p_o.Side), (ii p_o.Qty), (ii p_o.Price), (ii j25.2), (ii p_o.Phase), (ii p_o.NewQty), (ii p_o.NewPrice), (ii p_o.Version), (bb p_o.Asked)]) (cells' := [(ii p_o.Id), (ii p_o.Account), (ii p_o.Symbol), (ii p_o.Side), (ii p_o.Qty), (ii p_o.Price), (ii j25.2), (ii 3), (ii p_o.NewQty), (ii p_o.NewPrice), (ii p_o.Version), (bb p_o.Asked)]) (h' := [([1001], (.box (lOrderT p_o))), ([1002], (.box (lNoteT p_n))), ([1003], (.box zOrderT)), ([1004], (.box [(ii p_o.Id), (ii p_o.Account), (ii p_o.Symbol), (ii p_o.Side), (ii p_o.Qty), (ii p_o.Price), (ii j25.2), (ii 3), (ii p_o.NewQty), (ii p_o.NewPrice), (ii p_o.Version), (bb p_o.Asked)]))]) (by kernel_rfl) (by kernel_rfl) (by kernel_rfl) rfl (by kernel_rfl) (by kernel_rfl) (by kernel_rfl) (by kernel_rfl)) rfl ?_
             refine G_nil ?_
             refine G_then ?_
             refine G_seq ?_
             refine G_region ?_
             refine G_op [0] (v := (.box [1004] 8)) (E_p (by kernel_rfl)) rfl rfl ?_
             refine G_op0 [0] (v := (.val (.tup []))) (E_store (b := [1004]) (o := 8) (cs := [(ii 0)]) (cells := [(ii p_o.Id), (ii p_o.Account), (ii p_o.Symbol), (ii p_o.Side), (ii p_o.Qty), (ii p_o.Price), (ii j25.2), (ii 3), (ii p_o.NewQty), (ii p_o.NewPrice), (ii p_o.Version), (bb p_o.Asked)]) (cells' := [(ii p_o.Id), (ii p_o.Account), (ii p_o.Symbol), (ii p_o.Side), (ii p_o.Qty), (ii p_o.Price), (ii j25.2), (ii 3), (ii 0), (ii p_o.NewPrice), (ii p_o.Version), (bb p_o.Asked)]) (h' := [([1001], (.box (lOrderT p_o))), ([1002], (.box (lNoteT p_n))), ([1003], (.box zOrderT)), ([1004], (.box [(ii p_o.Id), (ii p_o.Account), (ii p_o.Symbol), (ii p_o.Side), (ii p_o.Qty), (ii p_o.Price), (ii j25.2), (ii 3), (ii 0), (ii p_o.NewPrice), (ii p_o.Version), (bb p_o.Asked)]))]) (by kernel_rfl) (by kernel_rfl) (by kernel_rfl) rfl (by kernel_rfl) (by kernel_rfl) (by kernel_rfl) (by kernel_rfl)) rfl ?_
             refine G_nil ?_
             refine G_then ?_
             refine G_seq ?_
             refine G_region ?_
             refine G_op [0] (v := (.box [1004] 9)) (E_p (by kernel_rfl)) rfl rfl ?_
             refine G_op0 [0] (v := (.val (.tup []))) (E_store (b := [1004]) (o := 9) (cs := [(ii 0)]) (cells := [(ii p_o.Id), (ii p_o.Account), (ii p_o.Symbol), (ii p_o.Side), (ii p_o.Qty), (ii p_o.Price), (ii j25.2), (ii 3), (ii 0), (ii p_o.NewPrice), (ii p_o.Version), (bb p_o.Asked)]) (cells' := [(ii p_o.Id), (ii p_o.Account), (ii p_o.Symbol), (ii p_o.Side), (ii p_o.Qty), (ii p_o.Price), (ii j25.2), (ii 3), (ii 0), (ii 0), (ii p_o.Version), (bb p_o.Asked)]) (h' := [([1001], (.box (lOrderT p_o))), ([1002], (.box (lNoteT p_n))), ([1003], (.box zOrderT)), ([1004], (.box [(ii p_o.Id), (ii p_o.Account), (ii p_o.Symbol), (ii p_o.Side), (ii p_o.Qty), (ii p_o.Price), (ii j25.2), (ii 3), (ii 0), (ii 0), (ii p_o.Version), (bb p_o.Asked)]))]) (by kernel_rfl) (by kernel_rfl) (by kernel_rfl) rfl (by kernel_rfl) (by kernel_rfl) (by kernel_rfl) (by kernel_rfl)) rfl ?_
             refine G_nil ?_
             refine G_then ?_
             refine G_seq ?_
             refine G_region ?_
             refine G_op [0] (v := (.agg [(ii p_o.Id), (ii p_o.Account), (ii p_o.Symbol), (ii p_o.Side), (ii p_o.Qty), (ii p_o.Price), (ii j25.2), (ii 3), (ii 0), (ii 0), (ii p_o.Version), (bb p_o.Asked)])) (E_load (by kernel_rfl)) rfl rfl ?_
             refine G_op0 [0] (v := (.val (.tup []))) (E_store (b := [1003]) (o := 0) (cs := [(ii p_o.Id), (ii p_o.Account), (ii p_o.Symbol), (ii p_o.Side), (ii p_o.Qty), (ii p_o.Price), (ii j25.2), (ii 3), (ii 0), (ii 0), (ii p_o.Version), (bb p_o.Asked)]) (cells := zOrderT) (cells' := [(ii p_o.Id), (ii p_o.Account), (ii p_o.Symbol), (ii p_o.Side), (ii p_o.Qty), (ii p_o.Price), (ii j25.2), (ii 3), (ii 0), (ii 0), (ii p_o.Version), (bb p_o.Asked)]) (h' := [([1001], (.box (lOrderT p_o))), ([1002], (.box (lNoteT p_n))), ([1003], (.box [(ii p_o.Id), (ii p_o.Account), (ii p_o.Symbol), (ii p_o.Side), (ii p_o.Qty), (ii p_o.Price), (ii j25.2), (ii 3), (ii 0), (ii 0), (ii p_o.Version), (bb p_o.Asked)])), ([1004], (.box [(ii p_o.Id), (ii p_o.Account), (ii p_o.Symbol), (ii p_o.Side), (ii p_o.Qty), (ii p_o.Price), (ii j25.2), (ii 3), (ii 0), (ii 0), (ii p_o.Version), (bb p_o.Asked)]))]) (by kernel_rfl) (by kernel_rfl) (by kernel_rfl) rfl (by kernel_rfl) (by kernel_rfl) (by kernel_rfl) (by kernel_rfl)) rfl ?_
             refine G_op [0] (v := (ii 0)) (E_p (by kernel_rfl)) rfl rfl ?_
             refine G_nil ?_
             refine G_then ?_
             refine G_ret ?_
             refine G_thenR ?_
             refine G_retR ?_
             refine q_some fun hA => ?_
             show outV _ _ = some _
             kernel_rfl
            ·refine G_skip ?_
             refine G_then ?_
             refine G_seq ?_
             refine G_seq ?_
             refine G_region ?_
             refine G_op [0] (v := (.box [1001] 7)) (E_p (by kernel_rfl)) rfl rfl ?_
             refine G_op [0] (v := (ii p_o.Phase)) (E_load (by kernel_rfl)) rfl rfl ?_
             refine G_op [0] (v := (bb ((p_o.Phase == 2)))) (E_p (by kernel_rfl)) rfl rfl ?_
             refine G_op [0] (v := (bb ((p_o.Phase == 2)))) (E_p (by kernel_rfl)) rfl rfl ?_
             refine G_pure (l := t44_4) (st := ⟨⟨150, [(99, (bb (((p_o.Phase == 2) && (decide (p_o.NewQty > 0)))))), (9, (.box [1004] 0)), (7, (bb ((decide (p_o.NewQty > 0))))), (5, (ii 0)), (4, (.box [1003] 0)), (3, (.box [1002] 0)), (2, (.box [1001] 0))]⟩, mkH [([1001], (.box (lOrderT p_o))), ([1002], (.box (lNoteT p_n))), ([1003], (.box zOrderT)), ([1004], (.box [(ii p_o.Id), (ii p_o.Account), (ii p_o.Symbol), (ii p_o.Side), (ii p_o.Qty), (ii p_o.Price), (ii j25.2), (ii p_o.Phase), (ii p_o.NewQty), (ii p_o.NewPrice), (ii p_o.Version), (bb p_o.Asked)]))]⟩) ?_ (fun r29 => ?_)
             ·refine G_op [0] (v := (bb (((p_o.Phase == 2) && (decide (p_o.NewQty > 0)))))) (E_p (by kernel_rfl)) rfl rfl ?_
              refine G_pure (l := []) (st := ⟨⟨150, [(104, (bb ((((p_o.Phase == 2) && (decide (p_o.NewQty > 0))) && (p_n.What == 6))))), (9, (.box [1004] 0)), (7, (bb ((decide (p_o.NewQty > 0))))), (5, (ii 0)), (4, (.box [1003] 0)), (3, (.box [1002] 0)), (2, (.box [1001] 0))]⟩, mkH [([1001], (.box (lOrderT p_o))), ([1002], (.box (lNoteT p_n))), ([1003], (.box zOrderT)), ([1004], (.box [(ii p_o.Id), (ii p_o.Account), (ii p_o.Symbol), (ii p_o.Side), (ii p_o.Qty), (ii p_o.Price), (ii j25.2), (ii p_o.Phase), (ii p_o.NewQty), (ii p_o.NewPrice), (ii p_o.Version), (bb p_o.Asked)]))]⟩) ?_ (fun r32 => ?_)
              ·refine G_nil ?_
               refine G_then ?_
               refine G_cond (t := (((p_o.Phase == 2) && (decide (p_o.NewQty > 0))) && (p_n.What == 6))) (by kernel_rfl) (fun _ => ?_) (fun _ => ?_)
               ·refine G_seq ?_
                refine G_region ?_
                refine G_op [0] (v := (.box [1004] 8)) (E_p (by kernel_rfl)) rfl rfl ?_
                refine G_op0 [0] (v := (.val (.tup []))) (E_store (b := [1004]) (o := 8) (cs := [(ii 0)]) (cells := [(ii p_o.Id), (ii p_o.Account), (ii p_o.Symbol), (ii p_o.Side), (ii p_o.Qty), (ii p_o.Price), (ii j25.2), (ii p_o.Phase), (ii p_o.NewQty), (ii p_o.NewPrice), (ii p_o.Version), (bb p_o.Asked)]) (cells' := [(ii p_o.Id), (ii p_o.Account), (ii p_o.Symbol), (ii p_o.Side), (ii p_o.Qty), (ii p_o.Price), (ii j25.2), (ii p_o.Phase), (ii 0), (ii p_o.NewPrice), (ii p_o.Version), (bb p_o.Asked)]) (h' := [([1001], (.box (lOrderT p_o))), ([1002], (.box (lNoteT p_n))), ([1003], (.box zOrderT)), ([1004], (.box [(ii p_o.Id), (ii p_o.Account), (ii p_o.Symbol), (ii p_o.Side), (ii p_o.Qty), (ii p_o.Price), (ii j25.2), (ii p_o.Phase), (ii 0), (ii p_o.NewPrice), (ii p_o.Version), (bb p_o.Asked)]))]) (by kernel_rfl) (by kernel_rfl) (by kernel_rfl) rfl (by kernel_rfl) (by kernel_rfl) (by kernel_rfl) (by kernel_rfl)) rfl ?_
                refine G_nil ?_
                refine G_then ?_
                refine G_seq ?_
                refine G_region ?_
                refine G_op [0] (v := (.box [1004] 9)) (E_p (by kernel_rfl)) rfl rfl ?_
                refine G_op0 [0] (v := (.val (.tup []))) (E_store (b := [1004]) (o := 9) (cs := [(ii 0)]) (cells := [(ii p_o.Id), (ii p_o.Account), (ii p_o.Symbol), (ii p_o.Side), (ii p_o.Qty), (ii p_o.Price), (ii j25.2), (ii p_o.Phase), (ii 0), (ii p_o.NewPrice), (ii p_o.Version), (bb p_o.Asked)]) (cells' := [(ii p_o.Id), (ii p_o.Account), (ii p_o.Symbol), (ii p_o.Side), (ii p_o.Qty), (ii p_o.Price), (ii j25.2), (ii p_o.Phase), (ii 0), (ii 0), (ii p_o.Version), (bb p_o.Asked)]) (h' := [([1001], (.box (lOrderT p_o))), ([1002], (.box (lNoteT p_n))), ([1003], (.box zOrderT)), ([1004], (.box [(ii p_o.Id), (ii p_o.Account), (ii p_o.Symbol), (ii p_o.Side), (ii p_o.Qty), (ii p_o.Price), (ii j25.2), (ii p_o.Phase), (ii 0), (ii 0), (ii p_o.Version), (bb p_o.Asked)]))]) (by kernel_rfl) (by kernel_rfl) (by kernel_rfl) rfl (by kernel_rfl) (by kernel_rfl) (by kernel_rfl) (by kernel_rfl)) rfl ?_
                refine G_nil ?_
                refine G_then ?_
                refine G_seq ?_
                refine G_region ?_
                refine G_op [0] (v := (.agg [(ii p_o.Id), (ii p_o.Account), (ii p_o.Symbol), (ii p_o.Side), (ii p_o.Qty), (ii p_o.Price), (ii j25.2), (ii p_o.Phase), (ii 0), (ii 0), (ii p_o.Version), (bb p_o.Asked)])) (E_load (by kernel_rfl)) rfl rfl ?_
                refine G_op0 [0] (v := (.val (.tup []))) (E_store (b := [1003]) (o := 0) (cs := [(ii p_o.Id), (ii p_o.Account), (ii p_o.Symbol), (ii p_o.Side), (ii p_o.Qty), (ii p_o.Price), (ii j25.2), (ii p_o.Phase), (ii 0), (ii 0), (ii p_o.Version), (bb p_o.Asked)]) (cells := zOrderT) (cells' := [(ii p_o.Id), (ii p_o.Account), (ii p_o.Symbol), (ii p_o.Side), (ii p_o.Qty), (ii p_o.Price), (ii j25.2), (ii p_o.Phase), (ii 0), (ii 0), (ii p_o.Version), (bb p_o.Asked)]) (h' := [([1001], (.box (lOrderT p_o))), ([1002], (.box (lNoteT p_n))), ([1003], (.box [(ii p_o.Id), (ii p_o.Account), (ii p_o.Symbol), (ii p_o.Side), (ii p_o.Qty), (ii p_o.Price), (ii j25.2), (ii p_o.Phase), (ii 0), (ii 0), (ii p_o.Version), (bb p_o.Asked)])), ([1004], (.box [(ii p_o.Id), (ii p_o.Account), (ii p_o.Symbol), (ii p_o.Side), (ii p_o.Qty), (ii p_o.Price), (ii j25.2), (ii p_o.Phase), (ii 0), (ii 0), (ii p_o.Version), (bb p_o.Asked)]))]) (by kernel_rfl) (by kernel_rfl) (by kernel_rfl) rfl (by kernel_rfl) (by kernel_rfl) (by kernel_rfl) (by kernel_rfl)) rfl ?_
                refine G_op [0] (v := (ii 0)) (E_p (by kernel_rfl)) rfl rfl ?_
                refine G_nil ?_
                refine G_then ?_
                refine G_ret ?_
                refine G_thenR ?_
                refine G_retR ?_
                refine q_some fun hA => ?_
                show outV _ _ = some _
                kernel_rfl
               ·refine G_skip ?_
                refine G_then ?_
                refine G_seq ?_
                refine G_seq ?_
                refine G_region ?_
                refine G_op [0] (v := (.box [1001] 7)) (E_p (by kernel_rfl)) rfl rfl ?_
                refine G_op [0] (v := (ii p_o.Phase)) (E_load (by kernel_rfl)) rfl rfl ?_
                refine G_op [0] (v := (bb ((p_o.Phase == 2)))) (E_p (by kernel_rfl)) rfl rfl ?_
                refine G_op [0] (v := (bb ((p_o.Phase == 2)))) (E_p (by kernel_rfl)) rfl rfl ?_
                refine G_pure (l := t44_5) (st := ⟨⟨150, [(113, (bb (((p_o.Phase == 2) && (decide (p_o.NewQty > 0)))))), (9, (.box [1004] 0)), (5, (ii 0)), (4, (.box [1003] 0)), (3, (.box [1002] 0)), (2, (.box [1001] 0))]⟩, mkH [([1001], (.box (lOrderT p_o))), ([1002], (.box (lNoteT p_n))), ([1003], (.box zOrderT)), ([1004], (.box [(ii p_o.Id), (ii p_o.Account), (ii p_o.Symbol), (ii p_o.Side), (ii p_o.Qty), (ii p_o.Price), (ii j25.2), (ii p_o.Phase), (ii p_o.NewQty), (ii p_o.NewPrice), (ii p_o.Version), (bb p_o.Asked)]))]⟩) ?_ (fun r35 => ?_)
                ·refine G_op [0] (v := (bb (((p_o.Phase == 2) && (decide (p_o.NewQty > 0)))))) (E_p (by kernel_rfl)) rfl rfl ?_
                 refine G_pure (l := t44_6) (st := ⟨⟨150, [(118, (bb ((((p_o.Phase == 2) && (decide (p_o.NewQty > 0))) && (p_n.What == 5))))), (9, (.box [1004] 0)), (5, (ii 0)), (4, (.box [1003] 0)), (3, (.box [1002] 0)), (2, (.box [1001] 0))]⟩, mkH [([1001], (.box (lOrderT p_o))), ([1002], (.box (lNoteT p_n))), ([1003], (.box zOrderT)), ([1004], (.box [(ii p_o.Id), (ii p_o.Account), (ii p_o.Symbol), (ii p_o.Side), (ii p_o.Qty), (ii p_o.Price), (ii j25.2), (ii p_o.Phase), (ii p_o.NewQty), (ii p_o.NewPrice), (ii p_o.Version), (bb p_o.Asked)]))]⟩) ?_ (fun r38 => ?_)
                 ·refine G_op [0] (v := (bb ((((p_o.Phase == 2) && (decide (p_o.NewQty > 0))) && (p_n.What == 5))))) (E_p (by kernel_rfl)) rfl rfl ?_
                  refine G_pure (l := t44_7) (st := ⟨⟨150, [(125, (bb (((((p_o.Phase == 2) && (decide (p_o.NewQty > 0))) && (p_n.What == 5)) && (p_n.Qty == p_o.NewQty))))), (9, (.box [1004] 0)), (5, (ii 0)), (4, (.box [1003] 0)), (3, (.box [1002] 0)), (2, (.box [1001] 0))]⟩, mkH [([1001], (.box (lOrderT p_o))), ([1002], (.box (lNoteT p_n))), ([1003], (.box zOrderT)), ([1004], (.box [(ii p_o.Id), (ii p_o.Account), (ii p_o.Symbol), (ii p_o.Side), (ii p_o.Qty), (ii p_o.Price), (ii j25.2), (ii p_o.Phase), (ii p_o.NewQty), (ii p_o.NewPrice), (ii p_o.Version), (bb p_o.Asked)]))]⟩) ?_ (fun r41 => ?_)
                  ·refine G_op [0] (v := (bb (((((p_o.Phase == 2) && (decide (p_o.NewQty > 0))) && (p_n.What == 5)) && (p_n.Qty == p_o.NewQty))))) (E_p (by kernel_rfl)) rfl rfl ?_
                   refine G_pure (l := t44_8) (st := ⟨⟨150, [(132, (bb ((((((p_o.Phase == 2) && (decide (p_o.NewQty > 0))) && (p_n.What == 5)) && (p_n.Qty == p_o.NewQty)) && (p_n.Price == p_o.NewPrice))))), (9, (.box [1004] 0)), (5, (ii 0)), (4, (.box [1003] 0)), (3, (.box [1002] 0)), (2, (.box [1001] 0))]⟩, mkH [([1001], (.box (lOrderT p_o))), ([1002], (.box (lNoteT p_n))), ([1003], (.box zOrderT)), ([1004], (.box [(ii p_o.Id), (ii p_o.Account), (ii p_o.Symbol), (ii p_o.Side), (ii p_o.Qty), (ii p_o.Price), (ii j25.2), (ii p_o.Phase), (ii p_o.NewQty), (ii p_o.NewPrice), (ii p_o.Version), (bb p_o.Asked)]))]⟩) ?_ (fun r44 => ?_)
                   ·refine G_op [0] (v := (bb ((((((p_o.Phase == 2) && (decide (p_o.NewQty > 0))) && (p_n.What == 5)) && (p_n.Qty == p_o.NewQty)) && (p_n.Price == p_o.NewPrice))))) (E_p (by kernel_rfl)) rfl rfl ?_
                    refine G_pure (l := []) (st := ⟨⟨150, [(139, (bb (((((((p_o.Phase == 2) && (decide (p_o.NewQty > 0))) && (p_n.What == 5)) && (p_n.Qty == p_o.NewQty)) && (p_n.Price == p_o.NewPrice)) && (decide (p_n.Qty > p_o.Filled)))))), (9, (.box [1004] 0)), (5, (ii 0)), (4, (.box [1003] 0)), (3, (.box [1002] 0)), (2, (.box [1001] 0))]⟩, mkH [([1001], (.box (lOrderT p_o))), ([1002], (.box (lNoteT p_n))), ([1003], (.box zOrderT)), ([1004], (.box [(ii p_o.Id), (ii p_o.Account), (ii p_o.Symbol), (ii p_o.Side), (ii p_o.Qty), (ii p_o.Price), (ii j25.2), (ii p_o.Phase), (ii p_o.NewQty), (ii p_o.NewPrice), (ii p_o.Version), (bb p_o.Asked)]))]⟩) ?_ (fun r47 => ?_)
                    ·refine G_nil ?_
                     refine G_then ?_
                     refine G_cond (t := ((((((p_o.Phase == 2) && (decide (p_o.NewQty > 0))) && (p_n.What == 5)) && (p_n.Qty == p_o.NewQty)) && (p_n.Price == p_o.NewPrice)) && (decide (p_n.Qty > p_o.Filled)))) (by kernel_rfl) (fun _ => ?_) (fun _ => ?_)
                     ·refine G_seq ?_
                      refine G_region ?_
                      refine G_op [0] (v := (.box [1002] 3)) (E_p (by kernel_rfl)) rfl rfl ?_
                      refine G_op [0] (v := (ii p_n.Qty)) (E_load (by kernel_rfl)) rfl rfl ?_
                      refine G_op [0] (v := (.box [1004] 4)) (E_p (by kernel_rfl)) rfl rfl ?_
                      refine G_op0 [0] (v := (.val (.tup []))) (E_store (b := [1004]) (o := 4) (cs := [(ii p_n.Qty)]) (cells := [(ii p_o.Id), (ii p_o.Account), (ii p_o.Symbol), (ii p_o.Side), (ii p_o.Qty), (ii p_o.Price), (ii j25.2), (ii p_o.Phase), (ii p_o.NewQty), (ii p_o.NewPrice), (ii p_o.Version), (bb p_o.Asked)]) (cells' := [(ii p_o.Id), (ii p_o.Account), (ii p_o.Symbol), (ii p_o.Side), (ii p_n.Qty), (ii p_o.Price), (ii j25.2), (ii p_o.Phase), (ii p_o.NewQty), (ii p_o.NewPrice), (ii p_o.Version), (bb p_o.Asked)]) (h' := [([1001], (.box (lOrderT p_o))), ([1002], (.box (lNoteT p_n))), ([1003], (.box zOrderT)), ([1004], (.box [(ii p_o.Id), (ii p_o.Account), (ii p_o.Symbol), (ii p_o.Side), (ii p_n.Qty), (ii p_o.Price), (ii j25.2), (ii p_o.Phase), (ii p_o.NewQty), (ii p_o.NewPrice), (ii p_o.Version), (bb p_o.Asked)]))]) (by kernel_rfl) (by kernel_rfl) (by kernel_rfl) rfl (by kernel_rfl) (by kernel_rfl) (by kernel_rfl) (by kernel_rfl)) rfl ?_
                      refine G_nil ?_
                      refine G_then ?_
                      refine G_seq ?_
                      refine G_region ?_
                      refine G_op [0] (v := (.box [1002] 4)) (E_p (by kernel_rfl)) rfl rfl ?_
                      refine G_op [0] (v := (ii p_n.Price)) (E_load (by kernel_rfl)) rfl rfl ?_
                      refine G_op [0] (v := (.box [1004] 5)) (E_p (by kernel_rfl)) rfl rfl ?_
                      refine G_op0 [0] (v := (.val (.tup []))) (E_store (b := [1004]) (o := 5) (cs := [(ii p_n.Price)]) (cells := [(ii p_o.Id), (ii p_o.Account), (ii p_o.Symbol), (ii p_o.Side), (ii p_n.Qty), (ii p_o.Price), (ii j25.2), (ii p_o.Phase), (ii p_o.NewQty), (ii p_o.NewPrice), (ii p_o.Version), (bb p_o.Asked)]) (cells' := [(ii p_o.Id), (ii p_o.Account), (ii p_o.Symbol), (ii p_o.Side), (ii p_n.Qty), (ii p_n.Price), (ii j25.2), (ii p_o.Phase), (ii p_o.NewQty), (ii p_o.NewPrice), (ii p_o.Version), (bb p_o.Asked)]) (h' := [([1001], (.box (lOrderT p_o))), ([1002], (.box (lNoteT p_n))), ([1003], (.box zOrderT)), ([1004], (.box [(ii p_o.Id), (ii p_o.Account), (ii p_o.Symbol), (ii p_o.Side), (ii p_n.Qty), (ii p_n.Price), (ii j25.2), (ii p_o.Phase), (ii p_o.NewQty), (ii p_o.NewPrice), (ii p_o.Version), (bb p_o.Asked)]))]) (by kernel_rfl) (by kernel_rfl) (by kernel_rfl) rfl (by kernel_rfl) (by kernel_rfl) (by kernel_rfl) (by kernel_rfl)) rfl ?_
                      refine G_nil ?_
                      refine G_then ?_
                      refine G_seq ?_
                      refine G_region ?_
                      refine G_op [0] (v := (.box [1004] 8)) (E_p (by kernel_rfl)) rfl rfl ?_
                      refine G_op0 [0] (v := (.val (.tup []))) (E_store (b := [1004]) (o := 8) (cs := [(ii 0)]) (cells := [(ii p_o.Id), (ii p_o.Account), (ii p_o.Symbol), (ii p_o.Side), (ii p_n.Qty), (ii p_n.Price), (ii j25.2), (ii p_o.Phase), (ii p_o.NewQty), (ii p_o.NewPrice), (ii p_o.Version), (bb p_o.Asked)]) (cells' := [(ii p_o.Id), (ii p_o.Account), (ii p_o.Symbol), (ii p_o.Side), (ii p_n.Qty), (ii p_n.Price), (ii j25.2), (ii p_o.Phase), (ii 0), (ii p_o.NewPrice), (ii p_o.Version), (bb p_o.Asked)]) (h' := [([1001], (.box (lOrderT p_o))), ([1002], (.box (lNoteT p_n))), ([1003], (.box zOrderT)), ([1004], (.box [(ii p_o.Id), (ii p_o.Account), (ii p_o.Symbol), (ii p_o.Side), (ii p_n.Qty), (ii p_n.Price), (ii j25.2), (ii p_o.Phase), (ii 0), (ii p_o.NewPrice), (ii p_o.Version), (bb p_o.Asked)]))]) (by kernel_rfl) (by kernel_rfl) (by kernel_rfl) rfl (by kernel_rfl) (by kernel_rfl) (by kernel_rfl) (by kernel_rfl)) rfl ?_
                      refine G_nil ?_
                      refine G_then ?_
                      refine G_subW (s0 := ⟨⟨150, [(9, (.box [1004] 0)), (5, (ii 0)), (4, (.box [1003] 0)), (2, (.box [1001] 0))]⟩, mkH [([1001], (.box (lOrderT p_o))), ([1003], (.box zOrderT)), ([1004], (.box [(ii p_o.Id), (ii p_o.Account), (ii p_o.Symbol), (ii p_o.Side), (ii p_n.Qty), (ii p_n.Price), (ii j25.2), (ii p_o.Phase), (ii 0), (ii p_o.NewPrice), (ii p_o.Version), (bb p_o.Asked)]))]⟩) (by exact Sub_keep ⟨.refl _, .refl _, .refl _, .refl _, trivial⟩ ⟨⟨_, (by kernel_rfl), .refl _⟩, ⟨_, (by kernel_rfl), .refl _⟩, ⟨_, (by kernel_rfl), .refl _⟩, trivial⟩ (by kernel_rfl) (by kernel_rfl)) ?_
                      refine G_seq ?_
                      refine G_region ?_
                      refine G_op [0] (v := (.box [1004] 9)) (E_p (by kernel_rfl)) rfl rfl ?_
                      refine G_op0 [0] (v := (.val (.tup []))) (E_store (b := [1004]) (o := 9) (cs := [(ii 0)]) (cells := [(ii p_o.Id), (ii p_o.Account), (ii p_o.Symbol), (ii p_o.Side), (ii p_n.Qty), (ii p_n.Price), (ii j25.2), (ii p_o.Phase), (ii 0), (ii p_o.NewPrice), (ii p_o.Version), (bb p_o.Asked)]) (cells' := [(ii p_o.Id), (ii p_o.Account), (ii p_o.Symbol), (ii p_o.Side), (ii p_n.Qty), (ii p_n.Price), (ii j25.2), (ii p_o.Phase), (ii 0), (ii 0), (ii p_o.Version), (bb p_o.Asked)]) (h' := [([1001], (.box (lOrderT p_o))), ([1003], (.box zOrderT)), ([1004], (.box [(ii p_o.Id), (ii p_o.Account), (ii p_o.Symbol), (ii p_o.Side), (ii p_n.Qty), (ii p_n.Price), (ii j25.2), (ii p_o.Phase), (ii 0), (ii 0), (ii p_o.Version), (bb p_o.Asked)]))]) (by kernel_rfl) (by kernel_rfl) (by kernel_rfl) rfl (by kernel_rfl) (by kernel_rfl) (by kernel_rfl) (by kernel_rfl)) rfl ?_
                      refine G_nil ?_
                      refine G_then ?_
                      refine G_seq ?_
                      refine G_region ?_
                      refine G_op [0] (v := (.agg [(ii p_o.Id), (ii p_o.Account), (ii p_o.Symbol), (ii p_o.Side), (ii p_n.Qty), (ii p_n.Price), (ii j25.2), (ii p_o.Phase), (ii 0), (ii 0), (ii p_o.Version), (bb p_o.Asked)])) (E_load (by kernel_rfl)) rfl rfl ?_
                      refine G_op0 [0] (v := (.val (.tup []))) (E_store (b := [1003]) (o := 0) (cs := [(ii p_o.Id), (ii p_o.Account), (ii p_o.Symbol), (ii p_o.Side), (ii p_n.Qty), (ii p_n.Price), (ii j25.2), (ii p_o.Phase), (ii 0), (ii 0), (ii p_o.Version), (bb p_o.Asked)]) (cells := zOrderT) (cells' := [(ii p_o.Id), (ii p_o.Account), (ii p_o.Symbol), (ii p_o.Side), (ii p_n.Qty), (ii p_n.Price), (ii j25.2), (ii p_o.Phase), (ii 0), (ii 0), (ii p_o.Version), (bb p_o.Asked)]) (h' := [([1001], (.box (lOrderT p_o))), ([1003], (.box [(ii p_o.Id), (ii p_o.Account), (ii p_o.Symbol), (ii p_o.Side), (ii p_n.Qty), (ii p_n.Price), (ii j25.2), (ii p_o.Phase), (ii 0), (ii 0), (ii p_o.Version), (bb p_o.Asked)])), ([1004], (.box [(ii p_o.Id), (ii p_o.Account), (ii p_o.Symbol), (ii p_o.Side), (ii p_n.Qty), (ii p_n.Price), (ii j25.2), (ii p_o.Phase), (ii 0), (ii 0), (ii p_o.Version), (bb p_o.Asked)]))]) (by kernel_rfl) (by kernel_rfl) (by kernel_rfl) rfl (by kernel_rfl) (by kernel_rfl) (by kernel_rfl) (by kernel_rfl)) rfl ?_
                      refine G_op [0] (v := (ii 0)) (E_p (by kernel_rfl)) rfl rfl ?_
                      refine G_nil ?_
                      refine G_then ?_
                      refine G_ret ?_
                      refine G_thenR ?_
                      refine G_retR ?_
                      refine q_some fun hA => ?_
                      show outV _ _ = some _
                      kernel_rfl
                     ·refine G_skip ?_
                      refine G_then ?_
                      refine G_seq ?_
                      refine G_region ?_
                      refine G_op [0] (v := (.agg (lOrderT p_o))) (E_load (by kernel_rfl)) rfl rfl ?_
                      refine G_op0 [0] (v := (.val (.tup []))) (E_store (b := [1003]) (o := 0) (cs := (lOrderT p_o)) (cells := zOrderT) (cells' := (lOrderT p_o)) (h' := [([1001], (.box (lOrderT p_o))), ([1002], (.box (lNoteT p_n))), ([1003], (.box (lOrderT p_o))), ([1004], (.box [(ii p_o.Id), (ii p_o.Account), (ii p_o.Symbol), (ii p_o.Side), (ii p_o.Qty), (ii p_o.Price), (ii j25.2), (ii p_o.Phase), (ii p_o.NewQty), (ii p_o.NewPrice), (ii p_o.Version), (bb p_o.Asked)]))]) (by kernel_rfl) (by kernel_rfl) (by kernel_rfl) rfl (by kernel_rfl) (by kernel_rfl) (by kernel_rfl) (by kernel_rfl)) rfl ?_
                      refine G_op [0] (v := (ii 8)) (E_p (by kernel_rfl)) rfl rfl ?_
                      refine G_nil ?_
                      refine G_then ?_
                      refine G_ret ?_
                      refine G_retR ?_
                      refine q_some fun hA => ?_
                      show outV _ _ = some _
                      kernel_rfl
                    ·refine q_two (((((p_o.Phase == 2) && (decide (p_o.NewQty > 0))) && (p_n.What == 5)) && (p_n.Qty == p_o.NewQty)) && (p_n.Price == p_o.NewPrice)) (fun h45 => ?_) (fun h45 => ?_)
                     ·refine G_subR (Sub_lit (t := 133) (v := true) rfl h45) ?_
                      refine G_op [0] (v := (.box [1002] 3)) (E_p (by kernel_rfl)) rfl rfl ?_
                      refine G_op [0] (v := (ii p_n.Qty)) (E_load (by kernel_rfl)) rfl rfl ?_
                      refine G_op [0] (v := (.box [1001] 6)) (E_p (by kernel_rfl)) rfl rfl ?_
                      refine G_op [0] (v := (ii p_o.Filled)) (E_load (by kernel_rfl)) rfl rfl ?_
                      refine G_op [0] (v := (bb ((decide (p_n.Qty > p_o.Filled))))) (E_p (by kernel_rfl)) rfl rfl ?_
                      refine G_op [0] (v := (bb ((decide (p_n.Qty > p_o.Filled))))) (E_p (by kernel_rfl)) rfl rfl ?_
                      exact q_some fun h => RP_sub (by exact Sub_env ⟨(Wk_and1 h45), .refl _, .refl _, .refl _, .refl _, .refl _, trivial⟩) h
                     ·refine G_subR (Sub_lit (t := 133) (v := false) rfl h45) ?_
                      refine G_off rfl rfl ?_
                      refine G_off rfl rfl ?_
                      refine G_off rfl rfl ?_
                      refine G_off rfl rfl ?_
                      refine G_off rfl rfl ?_
                      refine G_op [0] (v := (bb false)) (E_p (by kernel_rfl)) rfl rfl ?_
                      exact q_some fun h => RP_sub (by exact Sub_env ⟨(Wk_and0 h45), .refl _, .refl _, .refl _, .refl _, .refl _, trivial⟩) h
                   ·refine q_two ((((p_o.Phase == 2) && (decide (p_o.NewQty > 0))) && (p_n.What == 5)) && (p_n.Qty == p_o.NewQty)) (fun h42 => ?_) (fun h42 => ?_)
                    ·refine G_subR (Sub_lit (t := 126) (v := true) rfl h42) ?_
                     refine G_op [0] (v := (.box [1002] 4)) (E_p (by kernel_rfl)) rfl rfl ?_
                     refine G_op [0] (v := (ii p_n.Price)) (E_load (by kernel_rfl)) rfl rfl ?_
                     refine G_op [0] (v := (.box [1001] 9)) (E_p (by kernel_rfl)) rfl rfl ?_
                     refine G_op [0] (v := (ii p_o.NewPrice)) (E_load (by kernel_rfl)) rfl rfl ?_
                     refine G_op [0] (v := (bb ((p_n.Price == p_o.NewPrice)))) (E_p (by kernel_rfl)) rfl rfl ?_
                     refine G_op [0] (v := (bb ((p_n.Price == p_o.NewPrice)))) (E_p (by kernel_rfl)) rfl rfl ?_
                     exact q_some fun h => RP_sub (by exact Sub_env ⟨(Wk_and1 h42), .refl _, .refl _, .refl _, .refl _, .refl _, trivial⟩) h
                    ·refine G_subR (Sub_lit (t := 126) (v := false) rfl h42) ?_
                     refine G_off rfl rfl ?_
                     refine G_off rfl rfl ?_
                     refine G_off rfl rfl ?_
                     refine G_off rfl rfl ?_
                     refine G_off rfl rfl ?_
                     refine G_op [0] (v := (bb false)) (E_p (by kernel_rfl)) rfl rfl ?_
                     exact q_some fun h => RP_sub (by exact Sub_env ⟨(Wk_and0 h42), .refl _, .refl _, .refl _, .refl _, .refl _, trivial⟩) h
                  ·refine q_two (((p_o.Phase == 2) && (decide (p_o.NewQty > 0))) && (p_n.What == 5)) (fun h39 => ?_) (fun h39 => ?_)
                   ·refine G_subR (Sub_lit (t := 119) (v := true) rfl h39) ?_
                    refine G_op [0] (v := (.box [1002] 3)) (E_p (by kernel_rfl)) rfl rfl ?_
                    refine G_op [0] (v := (ii p_n.Qty)) (E_load (by kernel_rfl)) rfl rfl ?_
                    refine G_op [0] (v := (.box [1001] 8)) (E_p (by kernel_rfl)) rfl rfl ?_
                    refine G_op [0] (v := (ii p_o.NewQty)) (E_load (by kernel_rfl)) rfl rfl ?_
                    refine G_op [0] (v := (bb ((p_n.Qty == p_o.NewQty)))) (E_p (by kernel_rfl)) rfl rfl ?_
                    refine G_op [0] (v := (bb ((p_n.Qty == p_o.NewQty)))) (E_p (by kernel_rfl)) rfl rfl ?_
                    exact q_some fun h => RP_sub (by exact Sub_env ⟨(Wk_and1 h39), .refl _, .refl _, .refl _, .refl _, .refl _, trivial⟩) h
                   ·refine G_subR (Sub_lit (t := 119) (v := false) rfl h39) ?_
                    refine G_off rfl rfl ?_
                    refine G_off rfl rfl ?_
                    refine G_off rfl rfl ?_
                    refine G_off rfl rfl ?_
                    refine G_off rfl rfl ?_
                    refine G_op [0] (v := (bb false)) (E_p (by kernel_rfl)) rfl rfl ?_
                    exact q_some fun h => RP_sub (by exact Sub_env ⟨(Wk_and0 h39), .refl _, .refl _, .refl _, .refl _, .refl _, trivial⟩) h
                 ·refine q_two ((p_o.Phase == 2) && (decide (p_o.NewQty > 0))) (fun h36 => ?_) (fun h36 => ?_)
                  ·refine G_subR (Sub_lit (t := 114) (v := true) rfl h36) ?_
                   refine G_op [0] (v := (.box [1002] 1)) (E_p (by kernel_rfl)) rfl rfl ?_
                   refine G_op [0] (v := (ii p_n.What)) (E_load (by kernel_rfl)) rfl rfl ?_
                   refine G_op [0] (v := (bb ((p_n.What == 5)))) (E_p (by kernel_rfl)) rfl rfl ?_
                   refine G_op [0] (v := (bb ((p_n.What == 5)))) (E_p (by kernel_rfl)) rfl rfl ?_
                   exact q_some fun h => RP_sub (by exact Sub_env ⟨(Wk_and1 h36), .refl _, .refl _, .refl _, .refl _, .refl _, trivial⟩) h
                  ·refine G_subR (Sub_lit (t := 114) (v := false) rfl h36) ?_
                   refine G_off rfl rfl ?_
                   refine G_off rfl rfl ?_
                   refine G_off rfl rfl ?_
                   refine G_op [0] (v := (bb false)) (E_p (by kernel_rfl)) rfl rfl ?_
                   exact q_some fun h => RP_sub (by exact Sub_env ⟨(Wk_and0 h36), .refl _, .refl _, .refl _, .refl _, .refl _, trivial⟩) h
                ·refine q_two (p_o.Phase == 2) (fun h33 => ?_) (fun h33 => ?_)
                 ·refine G_subR (Sub_lit (t := 111) (v := true) rfl h33) ?_
                  refine G_op [0] (v := (bb ((decide (p_o.NewQty > 0))))) (E_p (by kernel_rfl)) rfl rfl ?_
                  refine G_op [0] (v := (bb ((decide (p_o.NewQty > 0))))) (E_p (by kernel_rfl)) rfl rfl ?_
                  exact q_some fun h => RP_sub (by exact Sub_env ⟨(Wk_and1 h33), .refl _, .refl _, .refl _, .refl _, .refl _, trivial⟩) h
                 ·refine G_subR (Sub_lit (t := 111) (v := false) rfl h33) ?_
                  refine G_off rfl rfl ?_
                  refine G_op [0] (v := (bb false)) (E_p (by kernel_rfl)) rfl rfl ?_
                  exact q_some fun h => RP_sub (by exact Sub_env ⟨(Wk_and0 h33), .refl _, .refl _, .refl _, .refl _, .refl _, trivial⟩) h
              ·refine q_two ((p_o.Phase == 2) && (decide (p_o.NewQty > 0))) (fun h30 => ?_) (fun h30 => ?_)
               ·refine G_subR (Sub_lit (t := 100) (v := true) rfl h30) ?_
                refine G_op [0] (v := (.box [1002] 1)) (E_p (by kernel_rfl)) rfl rfl ?_
                refine G_op [0] (v := (ii p_n.What)) (E_load (by kernel_rfl)) rfl rfl ?_
                refine G_op [0] (v := (bb ((p_n.What == 6)))) (E_p (by kernel_rfl)) rfl rfl ?_
                refine G_op [0] (v := (bb ((p_n.What == 6)))) (E_p (by kernel_rfl)) rfl rfl ?_
                exact q_some fun h => RP_sub (by exact Sub_env ⟨(Wk_and1 h30), .refl _, .refl _, .refl _, .refl _, .refl _, .refl _, trivial⟩) h
               ·refine G_subR (Sub_lit (t := 100) (v := false) rfl h30) ?_
                refine G_off rfl rfl ?_
                refine G_off rfl rfl ?_
                refine G_off rfl rfl ?_
                refine G_op [0] (v := (bb false)) (E_p (by kernel_rfl)) rfl rfl ?_
                exact q_some fun h => RP_sub (by exact Sub_env ⟨(Wk_and0 h30), .refl _, .refl _, .refl _, .refl _, .refl _, .refl _, trivial⟩) h
             ·refine q_two (p_o.Phase == 2) (fun h27 => ?_) (fun h27 => ?_)
              ·refine G_subR (Sub_lit (t := 97) (v := true) rfl h27) ?_
               refine G_op [0] (v := (bb ((decide (p_o.NewQty > 0))))) (E_p (by kernel_rfl)) rfl rfl ?_
               refine G_op [0] (v := (bb ((decide (p_o.NewQty > 0))))) (E_p (by kernel_rfl)) rfl rfl ?_
               exact q_some fun h => RP_sub (by exact Sub_env ⟨(Wk_and1 h27), .refl _, .refl _, .refl _, .refl _, .refl _, .refl _, trivial⟩) h
              ·refine G_subR (Sub_lit (t := 97) (v := false) rfl h27) ?_
               refine G_off rfl rfl ?_
               refine G_op [0] (v := (bb false)) (E_p (by kernel_rfl)) rfl rfl ?_
               exact q_some fun h => RP_sub (by exact Sub_env ⟨(Wk_and0 h27), .refl _, .refl _, .refl _, .refl _, .refl _, .refl _, trivial⟩) h
           ·refine G_cond (t := (((p_o.Phase == 2) && (p_n.What == 3)) && (decide (p_n.Qty ≤ (IntKind.wrap .i64 (p_o.Qty - p_o.Filled)))))) (by kernel_rfl) (fun _ => ?_) (fun _ => ?_)
            ·refine G_seq ?_
             refine G_region ?_
             refine G_op [0] (v := (.box [1001] 6)) (E_p (by kernel_rfl)) rfl rfl ?_
             refine G_op [0] (v := (ii p_o.Filled)) (E_load (by kernel_rfl)) rfl rfl ?_
             refine G_op [0] (v := (.box [1002] 3)) (E_p (by kernel_rfl)) rfl rfl ?_
             refine G_op [0] (v := (ii p_n.Qty)) (E_load (by kernel_rfl)) rfl rfl ?_
             refine G_op [0] (v := (ii ((IntKind.wrap .i64 (p_o.Filled + p_n.Qty))))) (E_p (by kernel_rfl)) rfl rfl ?_
             refine G_op [0] (v := (.box [1004] 6)) (E_p (by kernel_rfl)) rfl rfl ?_
             refine G_op0 [0] (v := (.val (.tup []))) (E_store (b := [1004]) (o := 6) (cs := [(ii ((IntKind.wrap .i64 (p_o.Filled + p_n.Qty))))]) (cells := (lOrderT p_o)) (cells' := [(ii p_o.Id), (ii p_o.Account), (ii p_o.Symbol), (ii p_o.Side), (ii p_o.Qty), (ii p_o.Price), (ii ((IntKind.wrap .i64 (p_o.Filled + p_n.Qty)))), (ii p_o.Phase), (ii p_o.NewQty), (ii p_o.NewPrice), (ii p_o.Version), (bb p_o.Asked)]) (h' := [([1001], (.box (lOrderT p_o))), ([1002], (.box (lNoteT p_n))), ([1003], (.box zOrderT)), ([1004], (.box [(ii p_o.Id), (ii p_o.Account), (ii p_o.Symbol), (ii p_o.Side), (ii p_o.Qty), (ii p_o.Price), (ii ((IntKind.wrap .i64 (p_o.Filled + p_n.Qty)))), (ii p_o.Phase), (ii p_o.NewQty), (ii p_o.NewPrice), (ii p_o.Version), (bb p_o.Asked)]))]) (by kernel_rfl) (by kernel_rfl) (by kernel_rfl) rfl (by kernel_rfl) (by kernel_rfl) (by kernel_rfl) (by kernel_rfl)) rfl ?_
             refine G_nil ?_
             refine G_then ?_
             refine G_seq ?_
             refine G_seq ?_
             refine G_region ?_
             refine G_op [0] (v := (.box [1002] 3)) (E_p (by kernel_rfl)) rfl rfl ?_
             refine G_op [0] (v := (ii p_n.Qty)) (E_load (by kernel_rfl)) rfl rfl ?_
             refine G_op [0] (v := (ii ((IntKind.wrap .i64 (p_o.Qty - p_o.Filled))))) (E_p (by kernel_rfl)) rfl rfl ?_
             refine G_op [0] (v := (bb ((decide (p_n.Qty < (IntKind.wrap .i64 (p_o.Qty - p_o.Filled))))))) (E_p (by kernel_rfl)) rfl rfl ?_
             refine G_nil ?_
             refine G_then ?_
             refine G_subW (s0 := ⟨⟨150, [(87, (bb ((decide (p_n.Qty < (IntKind.wrap .i64 (p_o.Qty - p_o.Filled))))))), (8, (bb j17)), (9, (.box [1004] 0)), (7, (bb ((decide (p_o.NewQty > 0))))), (5, (ii 0)), (4, (.box [1003] 0)), (3, (.box [1002] 0)), (2, (.box [1001] 0))]⟩, mkH [([1001], (.box (lOrderT p_o))), ([1002], (.box (lNoteT p_n))), ([1003], (.box zOrderT)), ([1004], (.box [(ii p_o.Id), (ii p_o.Account), (ii p_o.Symbol), (ii p_o.Side), (ii p_o.Qty), (ii p_o.Price), (ii ((IntKind.wrap .i64 (p_o.Filled + p_n.Qty)))), (ii p_o.Phase), (ii p_o.NewQty), (ii p_o.NewPrice), (ii p_o.Version), (bb p_o.Asked)]))]⟩) (by exact Sub_env ⟨.refl _, .refl _, .refl _, .refl _, .refl _, .refl _, .refl _, .refl _, trivial⟩) ?_
             refine G_cond (t := (decide (p_n.Qty < (IntKind.wrap .i64 (p_o.Qty - p_o.Filled))))) (by kernel_rfl) (fun _ => ?_) (fun _ => ?_)
             ·refine G_seq ?_
              refine G_region ?_
              refine G_op [0] (v := (.agg [(ii p_o.Id), (ii p_o.Account), (ii p_o.Symbol), (ii p_o.Side), (ii p_o.Qty), (ii p_o.Price), (ii ((IntKind.wrap .i64 (p_o.Filled + p_n.Qty)))), (ii p_o.Phase), (ii p_o.NewQty), (ii p_o.NewPrice), (ii p_o.Version), (bb p_o.Asked)])) (E_load (by kernel_rfl)) rfl rfl ?_
              refine G_op0 [0] (v := (.val (.tup []))) (E_store (b := [1003]) (o := 0) (cs := [(ii p_o.Id), (ii p_o.Account), (ii p_o.Symbol), (ii p_o.Side), (ii p_o.Qty), (ii p_o.Price), (ii ((IntKind.wrap .i64 (p_o.Filled + p_n.Qty)))), (ii p_o.Phase), (ii p_o.NewQty), (ii p_o.NewPrice), (ii p_o.Version), (bb p_o.Asked)]) (cells := zOrderT) (cells' := [(ii p_o.Id), (ii p_o.Account), (ii p_o.Symbol), (ii p_o.Side), (ii p_o.Qty), (ii p_o.Price), (ii ((IntKind.wrap .i64 (p_o.Filled + p_n.Qty)))), (ii p_o.Phase), (ii p_o.NewQty), (ii p_o.NewPrice), (ii p_o.Version), (bb p_o.Asked)]) (h' := [([1001], (.box (lOrderT p_o))), ([1002], (.box (lNoteT p_n))), ([1003], (.box [(ii p_o.Id), (ii p_o.Account), (ii p_o.Symbol), (ii p_o.Side), (ii p_o.Qty), (ii p_o.Price), (ii ((IntKind.wrap .i64 (p_o.Filled + p_n.Qty)))), (ii p_o.Phase), (ii p_o.NewQty), (ii p_o.NewPrice), (ii p_o.Version), (bb p_o.Asked)])), ([1004], (.box [(ii p_o.Id), (ii p_o.Account), (ii p_o.Symbol), (ii p_o.Side), (ii p_o.Qty), (ii p_o.Price), (ii ((IntKind.wrap .i64 (p_o.Filled + p_n.Qty)))), (ii p_o.Phase), (ii p_o.NewQty), (ii p_o.NewPrice), (ii p_o.Version), (bb p_o.Asked)]))]) (by kernel_rfl) (by kernel_rfl) (by kernel_rfl) rfl (by kernel_rfl) (by kernel_rfl) (by kernel_rfl) (by kernel_rfl)) rfl ?_
              refine G_op [0] (v := (ii 0)) (E_p (by kernel_rfl)) rfl rfl ?_
              refine G_nil ?_
              refine G_then ?_
              refine G_ret ?_
              refine G_thenR ?_
              refine G_thenR ?_
              refine G_retR ?_
              refine q_some fun hA => ?_
              cases hA
              replace hA := hr26
              show outV _ _ = some _
              kernel_rfl
             ·refine G_skip ?_
              refine G_then ?_
              refine G_region ?_
              refine G_op [0] (v := (bb true)) (E_p (by kernel_rfl)) rfl rfl ?_
              refine G_nil ?_
              exact q_some fun h => (QN_then : QN _ _) _ _ (by exact Sub_env ⟨.refl _, .refl _, .refl _, .refl _, .refl _, .refl _, .refl _, trivial⟩) h
            ·refine G_skip ?_
             exact q_some fun h => (QN_then : QN _ _) _ _ (by exact Sub_env ⟨.refl _, .refl _, .refl _, .refl _, .refl _, .refl _, .refl _, trivial⟩) h
          ·refine q_two ((p_o.Phase == 2) && (p_n.What == 3)) (fun h22 => ?_) (fun h22 => ?_)
           ·refine G_subR (Sub_lit (t := 72) (v := true) rfl h22) ?_
            refine G_op [0] (v := (.box [1002] 3)) (E_p (by kernel_rfl)) rfl rfl ?_
            refine G_op [0] (v := (ii p_n.Qty)) (E_load (by kernel_rfl)) rfl rfl ?_
            refine G_op [0] (v := (ii ((IntKind.wrap .i64 (p_o.Qty - p_o.Filled))))) (E_p (by kernel_rfl)) rfl rfl ?_
            refine G_op [0] (v := (bb ((decide (p_n.Qty ≤ (IntKind.wrap .i64 (p_o.Qty - p_o.Filled))))))) (E_p (by kernel_rfl)) rfl rfl ?_
            refine G_op [0] (v := (bb ((decide (p_n.Qty ≤ (IntKind.wrap .i64 (p_o.Qty - p_o.Filled))))))) (E_p (by kernel_rfl)) rfl rfl ?_
            exact q_some fun h => RP_sub (by exact Sub_env ⟨(Wk_and1 h22), .refl _, .refl _, .refl _, .refl _, .refl _, .refl _, .refl _, .refl _, trivial⟩) h
           ·refine G_subR (Sub_lit (t := 72) (v := false) rfl h22) ?_
            refine G_off rfl rfl ?_
            refine G_off rfl rfl ?_
            refine G_off rfl rfl ?_
            refine G_off rfl rfl ?_
            refine G_op [0] (v := (bb false)) (E_p (by kernel_rfl)) rfl rfl ?_
            exact q_some fun h => RP_sub (by exact Sub_env ⟨(Wk_and0 h22), .refl _, .refl _, .refl _, .refl _, .refl _, .refl _, .refl _, .refl _, trivial⟩) h
         ·refine q_two (p_o.Phase == 2) (fun h19 => ?_) (fun h19 => ?_)
          ·refine G_subR (Sub_lit (t := 67) (v := true) rfl h19) ?_
           refine G_op [0] (v := (.box [1002] 1)) (E_p (by kernel_rfl)) rfl rfl ?_
           refine G_op [0] (v := (ii p_n.What)) (E_load (by kernel_rfl)) rfl rfl ?_
           refine G_op [0] (v := (bb ((p_n.What == 3)))) (E_p (by kernel_rfl)) rfl rfl ?_
           refine G_op [0] (v := (bb ((p_n.What == 3)))) (E_p (by kernel_rfl)) rfl rfl ?_
           exact q_some fun h => RP_sub (by exact Sub_env ⟨(Wk_and1 h19), .refl _, .refl _, .refl _, .refl _, .refl _, .refl _, .refl _, .refl _, trivial⟩) h
          ·refine G_subR (Sub_lit (t := 67) (v := false) rfl h19) ?_
           refine G_off rfl rfl ?_
           refine G_off rfl rfl ?_
           refine G_off rfl rfl ?_
           refine G_op [0] (v := (bb false)) (E_p (by kernel_rfl)) rfl rfl ?_
           exact q_some fun h => RP_sub (by exact Sub_env ⟨(Wk_and0 h19), .refl _, .refl _, .refl _, .refl _, .refl _, .refl _, .refl _, .refl _, trivial⟩) h
        ·refine G_cond (t := (((p_o.Phase == 1) && (p_n.What == 2)) || ((p_o.Phase == 2) && (p_n.What == 4)))) (by kernel_rfl) (fun _ => ?_) (fun _ => ?_)
         ·refine G_region ?_
          refine G_op [0] (v := (bb true)) (E_p (by kernel_rfl)) rfl rfl ?_
          refine G_nil ?_
          exact q_some fun h => (QN_then : QN _ _) _ _ (by exact Sub_env ⟨.refl _, .refl _, .refl _, .refl _, .refl _, .refl _, .refl _, .refl _, trivial⟩) h
         ·refine G_skip ?_
          exact q_some fun h => (QN_then : QN _ _) _ _ (by exact Sub_env ⟨.refl _, .refl _, .refl _, .refl _, .refl _, .refl _, .refl _, .refl _, trivial⟩) h
       ·refine q_two ((p_o.Phase == 1) && (p_n.What == 2)) (fun h14 => ?_) (fun h14 => ?_)
        ·refine G_subR (Sub_lit (t := 54) (v := true) rfl h14) ?_
         refine G_off rfl rfl ?_
         refine G_off rfl rfl ?_
         refine G_off rfl rfl ?_
         refine G_off rfl rfl ?_
         refine G_off rfl rfl ?_
         refine G_off rfl rfl ?_
         refine G_off rfl rfl ?_
         refine G_off rfl rfl ?_
         refine G_op [0] (v := (bb true)) (E_p (by kernel_rfl)) rfl rfl ?_
         exact q_some fun h => RP_sub (by exact Sub_env ⟨(Wk_or1 h14), .refl _, .refl _, .refl _, .refl _, .refl _, .refl _, .refl _, .refl _, trivial⟩) h
        ·refine G_subR (Sub_lit (t := 54) (v := false) rfl h14) ?_
         refine G_op [0] (v := (.box [1001] 7)) (E_p (by kernel_rfl)) rfl rfl ?_
         refine G_op [0] (v := (ii p_o.Phase)) (E_load (by kernel_rfl)) rfl rfl ?_
         refine G_op [0] (v := (bb ((p_o.Phase == 2)))) (E_p (by kernel_rfl)) rfl rfl ?_
         refine G_op [0] (v := (bb ((p_o.Phase == 2)))) (E_p (by kernel_rfl)) rfl rfl ?_
         refine G_pure (l := t44_2) (st := ⟨⟨150, [(62, (bb (((p_o.Phase == 2) && (p_n.What == 4))))), (54, (bb false)), (9, (.box [1004] 0)), (8, (bb false)), (7, (bb ((decide (p_o.NewQty > 0))))), (6, (ii ((IntKind.wrap .i64 (p_o.Qty - p_o.Filled))))), (5, (ii 0)), (4, (.box [1003] 0)), (3, (.box [1002] 0)), (2, (.box [1001] 0))]⟩, mkH [([1001], (.box (lOrderT p_o))), ([1002], (.box (lNoteT p_n))), ([1003], (.box zOrderT)), ([1004], (.box (lOrderT p_o)))]⟩) ?_ (fun r50 => ?_)
         ·refine G_op [0] (v := (bb (((p_o.Phase == 2) && (p_n.What == 4))))) (E_p (by kernel_rfl)) rfl rfl ?_
          exact q_some fun h => RP_sub (by exact Sub_env ⟨(Wk_or0 h14), .refl _, .refl _, .refl _, .refl _, .refl _, .refl _, .refl _, .refl _, trivial⟩) h
         ·refine q_two (p_o.Phase == 2) (fun h48 => ?_) (fun h48 => ?_)
          ·refine G_subR (Sub_lit (t := 58) (v := true) rfl h48) ?_
           refine G_op [0] (v := (.box [1002] 1)) (E_p (by kernel_rfl)) rfl rfl ?_
           refine G_op [0] (v := (ii p_n.What)) (E_load (by kernel_rfl)) rfl rfl ?_
           refine G_op [0] (v := (bb ((p_n.What == 4)))) (E_p (by kernel_rfl)) rfl rfl ?_
           refine G_op [0] (v := (bb ((p_n.What == 4)))) (E_p (by kernel_rfl)) rfl rfl ?_
           exact q_some fun h => RP_sub (by exact Sub_env ⟨(Wk_and1 h48), .refl _, .refl _, .refl _, .refl _, .refl _, .refl _, .refl _, .refl _, .refl _, trivial⟩) h
          ·refine G_subR (Sub_lit (t := 58) (v := false) rfl h48) ?_
           refine G_off rfl rfl ?_
           refine G_off rfl rfl ?_
           refine G_off rfl rfl ?_
           refine G_op [0] (v := (bb false)) (E_p (by kernel_rfl)) rfl rfl ?_
           exact q_some fun h => RP_sub (by exact Sub_env ⟨(Wk_and0 h48), .refl _, .refl _, .refl _, .refl _, .refl _, .refl _, .refl _, .refl _, .refl _, trivial⟩) h
      ·refine q_two (p_o.Phase == 1) (fun h11 => ?_) (fun h11 => ?_)
       ·refine G_subR (Sub_lit (t := 49) (v := true) rfl h11) ?_
        refine G_op [0] (v := (.box [1002] 1)) (E_p (by kernel_rfl)) rfl rfl ?_
        refine G_op [0] (v := (ii p_n.What)) (E_load (by kernel_rfl)) rfl rfl ?_
        refine G_op [0] (v := (bb ((p_n.What == 2)))) (E_p (by kernel_rfl)) rfl rfl ?_
        refine G_op [0] (v := (bb ((p_n.What == 2)))) (E_p (by kernel_rfl)) rfl rfl ?_
        exact q_some fun h => RP_sub (by exact Sub_env ⟨(Wk_and1 h11), .refl _, .refl _, .refl _, .refl _, .refl _, .refl _, .refl _, .refl _, trivial⟩) h
       ·refine G_subR (Sub_lit (t := 49) (v := false) rfl h11) ?_
        refine G_off rfl rfl ?_
        refine G_off rfl rfl ?_
        refine G_off rfl rfl ?_
        refine G_op [0] (v := (bb false)) (E_p (by kernel_rfl)) rfl rfl ?_
        exact q_some fun h => RP_sub (by exact Sub_env ⟨(Wk_and0 h11), .refl _, .refl _, .refl _, .refl _, .refl _, .refl _, .refl _, .refl _, trivial⟩) h
    ·refine q_two (p_o.Phase == 1) (fun h8 => ?_) (fun h8 => ?_)
     ·refine G_subR (Sub_lit (t := 39) (v := true) rfl h8) ?_
      refine G_op [0] (v := (.box [1002] 1)) (E_p (by kernel_rfl)) rfl rfl ?_
      refine G_op [0] (v := (ii p_n.What)) (E_load (by kernel_rfl)) rfl rfl ?_
      refine G_op [0] (v := (bb ((p_n.What == 1)))) (E_p (by kernel_rfl)) rfl rfl ?_
      refine G_op [0] (v := (bb ((p_n.What == 1)))) (E_p (by kernel_rfl)) rfl rfl ?_
      exact q_some fun h => RP_sub (by exact Sub_env ⟨(Wk_and1 h8), .refl _, .refl _, .refl _, .refl _, .refl _, .refl _, .refl _, .refl _, trivial⟩) h
     ·refine G_subR (Sub_lit (t := 39) (v := false) rfl h8) ?_
      refine G_off rfl rfl ?_
      refine G_off rfl rfl ?_
      refine G_off rfl rfl ?_
      refine G_op [0] (v := (bb false)) (E_p (by kernel_rfl)) rfl rfl ?_
      exact q_some fun h => RP_sub (by exact Sub_env ⟨(Wk_and0 h8), .refl _, .refl _, .refl _, .refl _, .refl _, .refl _, .refl _, .refl _, trivial⟩) h
  ·refine q_two b3 (fun h5 => ?_) (fun h5 => ?_)
   ·refine G_subR (Sub_lit (t := 19) (v := true) rfl h5) ?_
    refine G_off rfl rfl ?_
    refine G_off rfl rfl ?_
    refine G_off rfl rfl ?_
    refine G_off rfl rfl ?_
    refine G_off rfl rfl ?_
    refine G_op [0] (v := (bb true)) (E_p (by kernel_rfl)) rfl rfl ?_
    exact q_some fun h => RP_sub (by exact Sub_env ⟨(Wk_or1 h5), .refl _, .refl _, .refl _, .refl _, trivial⟩) h
   ·refine G_subR (Sub_lit (t := 19) (v := false) rfl h5) ?_
    refine G_op [0] (v := (.box [1002] 2)) (E_p (by kernel_rfl)) rfl rfl ?_
    refine G_op [0] (v := (ii p_n.Order)) (E_load (by kernel_rfl)) rfl rfl ?_
    refine G_op [0] (v := (.box [1001] 0)) (E_p (by kernel_rfl)) rfl rfl ?_
    refine G_op [0] (v := (ii p_o.Id)) (E_load (by kernel_rfl)) rfl rfl ?_
    refine G_op [0] (v := (bb ((p_n.Order != p_o.Id)))) (E_p (by kernel_rfl)) rfl rfl ?_
    refine G_op [0] (v := (bb ((p_n.Order != p_o.Id)))) (E_p (by kernel_rfl)) rfl rfl ?_
    exact q_some fun h => RP_sub (by exact Sub_env ⟨(Wk_or0 h5), .refl _, .refl _, .refl _, .refl _, trivial⟩) h
 ·refine q_bif (fun h2 => ?_) (fun h2 => ?_)
  ·refine G_subR (Sub_lit (t := 13) (v := true) rfl h2) ?_
   refine G_off rfl rfl ?_
   refine G_off rfl rfl ?_
   refine G_off rfl rfl ?_
   refine G_off rfl rfl ?_
   refine G_op [0] (v := (bb true)) (E_p (by kernel_rfl)) rfl rfl ?_
   exact q_some fun h => RP_sub (by exact Sub_env ⟨.refl _, .refl _, .refl _, .refl _, .refl _, trivial⟩) h
  ·refine G_subR (Sub_lit (t := 13) (v := false) rfl h2) ?_
   refine G_op [0] (v := (.agg (lNoteT p_n))) (E_load (by kernel_rfl)) rfl rfl ?_
   refine q_bind fun v51 hv51 => ?_
   refine G_op [0] (v := (.val (.agg [(.int .i64 v51.Kind), (.int .i64 v51.Order), (.int .i64 v51.Account), (.int .i64 v51.Symbol), (.int .i64 v51.Side), (.int .i64 v51.Qty), (.int .i64 v51.Price), (.int .i64 v51.Long), (.int .i64 v51.Short), (.int .i64 v51.Open), (.bool v51.On), (.int .i64 v51.Seq), (.int .i64 v51.What)]))) (E_call (ds := [.agg (e_NoteT p_n)]) (r := .agg (e_RecT v51)) hc72 (by kernel_rfl) ((hs72 p_n _ (by kernel_rfl)).trans (congrArg _ hv51))) rfl rfl ?_
   refine q_bind fun v52 hv52 => ?_
   refine G_op [0] (v := (bb v52)) (E_call (ds := [.agg (e_RecT v51)]) (r := .bool v52) hc66 (by kernel_rfl) ((hs66 v51 _ (by kernel_rfl)).trans (congrArg _ hv52))) rfl rfl ?_
   refine G_op [0] (v := (bb ((!v52)))) (E_p (by kernel_rfl)) rfl rfl ?_
   refine G_op [0] (v := (bb ((!v52)))) (E_p (by kernel_rfl)) rfl rfl ?_
   exact q_some fun h => RP_sub (by exact Sub_env ⟨.refl _, .refl _, .refl _, .refl _, .refl _, trivial⟩) h
theorem s44 (x0 : OrderT) (x1 : NoteT) (ds : List DV) (hd : List.map z1 ds = List.map z1 [.agg (e_OrderT x0), .agg (e_NoteT x1)]) : sp44 ds = (g_snaffleref07_Take x0 x1).map fun r => .tup [.agg (e_OrderT r.1), .int .i64 r.2] :=
 specT_at (ea := fun (a : OrderT × NoteT) => [.agg (e_OrderT a.1), .agg (e_NoteT a.2)]) (eb := fun (r : (OrderT × Int)) => .tup [.agg (e_OrderT r.1), .int .i64 r.2]) (g := fun (a : OrderT × NoteT) => g_snaffleref07_Take a.1 a.2) inj44 (x0, x1) hd

def t46_2 : List AIns := (⟨(some 33), (.p (.mv (.t 32))), none⟩ :: ⟨(some 34), (.p (.foff 11 (.t 3))), (some (33, false))⟩ :: ⟨(some 35), (.r (.load 1 false (.t 34))), (some (33, false))⟩ :: ⟨(some 36), (.p (.pick (.t 33) (.c (.bool true)) (.t 35))), none⟩ :: [])
def t46_1 : List AIns := (⟨(some 19), (.p (.mv (.t 18))), none⟩ :: ⟨(some 20), (.p (.foff 10 (.t 3))), (some (19, false))⟩ :: ⟨(some 21), (.r (.load 1 false (.t 20))), (some (19, false))⟩ :: ⟨(some 22), (.p (.bin .eql (.t 21) (.c (.int .i64 9223372036854775807)))), (some (19, false))⟩ :: ⟨(some 23), (.p (.pick (.t 19) (.c (.bool true)) (.t 22))), none⟩ :: [])
def t46_0 : List AIns := (⟨(some 15), (.p (.mv (.t 14))), none⟩ :: ⟨(some 16), (.p (.mv (.t 2))), (some (15, false))⟩ :: ⟨(some 17), (.p (.bin .lss (.t 16) (.c (.int .i64 1)))), (some (15, false))⟩ :: ⟨(some 18), (.p (.pick (.t 15) (.c (.bool true)) (.t 17))), none⟩ :: t46_1)
def k46_0 : ACode := (.region (⟨(some 8), (.r (.load 12 true (.t 3))), none⟩ :: ⟨(some 9), (.r (.call 42 [(.t 8)])), none⟩ :: ⟨(some 10), (.p (.un .not (.t 9))), none⟩ :: ⟨(some 11), (.p (.mv (.t 10))), none⟩ :: ⟨(some 12), (.p (.mv (.t 1))), (some (11, false))⟩ :: ⟨(some 13), (.p (.bin .lss (.t 12) (.c (.int .i64 1)))), (some (11, false))⟩ :: ⟨(some 14), (.p (.pick (.t 11) (.c (.bool true)) (.t 13))), none⟩ :: t46_0))
def k46_1 : ACode := (.seq (.region (⟨(some 24), (.r (.load 12 true (.t 3))), none⟩ :: ⟨none, (.w (.store 12 (.t 6) (.t 24))), none⟩ :: ⟨(some 7), (.p (.mv (.c (.int .i64 1)))), none⟩ :: [])) .ret)
def k46_2 : ACode := (.cond (.t 23) k46_1 .skip)
def k46_3 : ACode := (.seq k46_0 k46_2)
def k46_4 : ACode := (.region (⟨(some 25), (.p (.foff 7 (.t 3))), none⟩ :: ⟨(some 26), (.r (.load 1 false (.t 25))), none⟩ :: ⟨(some 27), (.p (.bin .neq (.t 26) (.c (.int .i64 2)))), none⟩ :: ⟨(some 28), (.p (.mv (.t 27))), none⟩ :: ⟨(some 29), (.p (.foff 8 (.t 3))), (some (28, false))⟩ :: ⟨(some 30), (.r (.load 1 false (.t 29))), (some (28, false))⟩ :: ⟨(some 31), (.p (.bin .neq (.t 30) (.c (.int .i64 0)))), (some (28, false))⟩ :: ⟨(some 32), (.p (.pick (.t 28) (.c (.bool true)) (.t 31))), none⟩ :: t46_2))
def k46_5 : ACode := (.seq (.region (⟨(some 37), (.r (.load 12 true (.t 3))), none⟩ :: ⟨none, (.w (.store 12 (.t 6) (.t 37))), none⟩ :: ⟨(some 7), (.p (.mv (.c (.int .i64 8)))), none⟩ :: [])) .ret)
def k46_6 : ACode := (.cond (.t 36) k46_5 .skip)
def k46_7 : ACode := (.seq k46_4 k46_6)
def k46_8 : ACode := (.region (⟨(some 42), (.p (.foff 10 (.t 3))), none⟩ :: ⟨(some 43), (.r (.load 1 false (.t 42))), none⟩ :: ⟨(some 44), (.p (.bin .add (.t 43) (.c (.int .i64 1)))), none⟩ :: ⟨(some 45), (.p (.foff 10 (.t 3))), none⟩ :: ⟨none, (.w (.store 1 (.t 45) (.t 44))), none⟩ :: []))
def k46_9 : ACode := (.seq (.region (⟨(some 46), (.r (.load 12 true (.t 3))), none⟩ :: ⟨none, (.w (.store 12 (.t 6) (.t 46))), none⟩ :: ⟨(some 7), (.p (.mv (.c (.int .i64 0)))), none⟩ :: [])) .ret)
def k46_10 : ACode := (.seq k46_8 k46_9)
def k46_11 : ACode := (.seq (.region (⟨(some 40), (.p (.mv (.t 2))), none⟩ :: ⟨(some 41), (.p (.foff 9 (.t 3))), none⟩ :: ⟨none, (.w (.store 1 (.t 41) (.t 40))), none⟩ :: [])) k46_10)
def k46_12 : ACode := (.seq (.region (⟨(some 38), (.p (.mv (.t 1))), none⟩ :: ⟨(some 39), (.p (.foff 8 (.t 3))), none⟩ :: ⟨none, (.w (.store 1 (.t 39) (.t 38))), none⟩ :: [])) k46_11)
def k46_13 : ACode := (.seq k46_7 k46_12)
def k46_14 : ACode := (.seq k46_3 k46_13)
def cd46 : ACode := (.seq (.region (⟨(some 3), (.a (.bx (.t 0))), none⟩ :: ⟨(some 6), (.a (.alloc [(.int .i64 0), (.int .i64 0), (.int .i64 0), (.int .i64 0), (.int .i64 0), (.int .i64 0), (.int .i64 0), (.int .i64 0), (.int .i64 0), (.int .i64 0), (.int .i64 0), (.bool false)])), none⟩ :: ⟨(some 7), (.p (.mv (.c (.int .i64 0)))), none⟩ :: [])) k46_14)
def rs46 : List ARes := [(.cell 6 12 true), (.tmp 7)]
def af46 : AFn := ⟨cd46, rs46, 47⟩
theorem c46 : compF Try.prog 46 = some af46 := by kernel_rfl
noncomputable def g_snaffleref07_Change (p_o : OrderT) (p_qty : Int) (p_price : Int) : Option (OrderT × Int) := (Option.bind (g_snaffleref07_Right p_o) fun v1 => (bif ((((!v1) || (decide (p_qty < 1))) || (decide (p_price < 1))) || (p_o.Version == 9223372036854775807)) then (some (p_o, 1)) else (bif (((p_o.Phase != 2) || (p_o.NewQty != 0)) || p_o.Asked) then (some (p_o, 8)) else (some ((OrderT.mk p_o.Id p_o.Account p_o.Symbol p_o.Side p_o.Qty p_o.Price p_o.Filled p_o.Phase p_qty p_price (IntKind.wrap .i64 (p_o.Version + 1)) p_o.Asked), 0)))))
noncomputable def sp46 : List DV → Option DV := specT (fun (a : OrderT × Int × Int) => [.agg (e_OrderT a.1), .int .i64 a.2.1, .int .i64 a.2.2]) (fun (r : (OrderT × Int)) => .tup [.agg (e_OrderT r.1), .int .i64 r.2]) (fun (a : OrderT × Int × Int) => g_snaffleref07_Change a.1 a.2.1 a.2.2)
theorem inj46 : ∀ (a b : OrderT × Int × Int), List.map z1 ((fun (a : OrderT × Int × Int) => [.agg (e_OrderT a.1), .int .i64 a.2.1, .int .i64 a.2.2]) a) = List.map z1 ((fun (a : OrderT × Int × Int) => [.agg (e_OrderT a.1), .int .i64 a.2.1, .int .i64 a.2.2]) b) → a = b := by
 rintro ⟨a0, a1, a2⟩ ⟨b0, b1, b2⟩ h
 simp only [List.map_cons, List.map_nil, List.cons.injEq, and_true] at h
 obtain ⟨h0, h1, h2⟩ := h
 exact (pair_eq (e_OrderT_inj (DV.agg.inj h0)) (pair_eq (DV.int.inj h1).2 (DV.int.inj h2).2))
set_option maxHeartbeats 1000000 in
theorem w46 {C : FuncId → Con} (hC : ConOk Try.prog C) {q42 : List DV → Option DV} (hc42 : C 42 = .val q42) (hs42 : ∀ (x0 : OrderT) (ds : List DV), List.map z1 ds = List.map z1 [.agg (e_OrderT x0)] → q42 ds = (g_snaffleref07_Right x0).map fun r => .bool r) : ValOk Try.prog 46 sp46 := by
 refine valT_of hC c46 _ _ _ inj46 ?_
 rintro ⟨p_o, p_qty, p_price⟩
 show Imq (g_snaffleref07_Change p_o p_qty p_price) (fun _ => True) fun r => WP Try.prog C (fun _ => False) cd46 (retQ fun s => outV s rs46 = some (.tup [.agg (e_OrderT r.1), .int .i64 r.2])) ⟨⟨47, [(0, (.val (.agg [(.int .i64 p_o.Id), (.int .i64 p_o.Account), (.int .i64 p_o.Symbol), (.int .i64 p_o.Side), (.int .i64 p_o.Qty), (.int .i64 p_o.Price), (.int .i64 p_o.Filled), (.int .i64 p_o.Phase), (.int .i64 p_o.NewQty), (.int .i64 p_o.NewPrice), (.int .i64 p_o.Version), (.bool p_o.Asked)]))), (1, (ii p_qty)), (2, (ii p_price))]⟩, mkH []⟩
 unfold g_snaffleref07_Change
 refine G_seq ?_
 refine G_region ?_
 refine G_op [1001] (v := (.box [1001] 0)) (E_a (u := (.box [1001] 0)) (b := (.box (lOrderT p_o))) (h' := [([1001], (.box (lOrderT p_o)))]) (by kernel_rfl) (by kernel_rfl) (by kernel_rfl)) rfl rfl ?_
 refine G_op [1002] (v := (.box [1002] 0)) (E_a (u := (.box [1002] 0)) (b := (.box zOrderT)) (h' := [([1001], (.box (lOrderT p_o))), ([1002], (.box zOrderT))]) (by kernel_rfl) (by kernel_rfl) (by kernel_rfl)) rfl rfl ?_
 refine G_op [0] (v := (ii 0)) (E_p (by kernel_rfl)) rfl rfl ?_
 refine G_nil ?_
 refine G_then ?_
 refine G_seq ?_
 refine G_seq ?_
 refine G_region ?_
 refine G_op [0] (v := (.agg (lOrderT p_o))) (E_load (by kernel_rfl)) rfl rfl ?_
 refine q_bind fun v1 hv1 => ?_
 refine G_op [0] (v := (bb v1)) (E_call (ds := [.agg (e_OrderT p_o)]) (r := .bool v1) hc42 (by kernel_rfl) ((hs42 p_o _ (by kernel_rfl)).trans (congrArg _ hv1))) rfl rfl ?_
 refine G_op [0] (v := (bb ((!v1)))) (E_p (by kernel_rfl)) rfl rfl ?_
 refine G_op [0] (v := (bb ((!v1)))) (E_p (by kernel_rfl)) rfl rfl ?_
 refine G_pure (l := t46_0) (st := ⟨⟨47, [(14, (bb (((!v1) || (decide (p_qty < 1)))))), (7, (ii 0)), (6, (.box [1002] 0)), (3, (.box [1001] 0)), (1, (ii p_qty)), (2, (ii p_price))]⟩, mkH [([1001], (.box (lOrderT p_o))), ([1002], (.box zOrderT))]⟩) ?_ (fun r4 => ?_)
 ·refine G_op [0] (v := (bb (((!v1) || (decide (p_qty < 1)))))) (E_p (by kernel_rfl)) rfl rfl ?_
  refine G_pure (l := t46_1) (st := ⟨⟨47, [(18, (bb ((((!v1) || (decide (p_qty < 1))) || (decide (p_price < 1)))))), (7, (ii 0)), (6, (.box [1002] 0)), (3, (.box [1001] 0)), (1, (ii p_qty)), (2, (ii p_price))]⟩, mkH [([1001], (.box (lOrderT p_o))), ([1002], (.box zOrderT))]⟩) ?_ (fun r7 => ?_)
  ·refine G_op [0] (v := (bb ((((!v1) || (decide (p_qty < 1))) || (decide (p_price < 1)))))) (E_p (by kernel_rfl)) rfl rfl ?_
   refine G_pure (l := []) (st := ⟨⟨47, [(23, (bb (((((!v1) || (decide (p_qty < 1))) || (decide (p_price < 1))) || (p_o.Version == 9223372036854775807))))), (7, (ii 0)), (6, (.box [1002] 0)), (3, (.box [1001] 0)), (1, (ii p_qty)), (2, (ii p_price))]⟩, mkH [([1001], (.box (lOrderT p_o))), ([1002], (.box zOrderT))]⟩) ?_ (fun r10 => ?_)
   ·refine G_nil ?_
    refine G_then ?_
    refine G_cond (t := ((((!v1) || (decide (p_qty < 1))) || (decide (p_price < 1))) || (p_o.Version == 9223372036854775807))) (by kernel_rfl) (fun _ => ?_) (fun _ => ?_)
    ·refine G_seq ?_
     refine G_region ?_
     refine G_op [0] (v := (.agg (lOrderT p_o))) (E_load (by kernel_rfl)) rfl rfl ?_
     refine G_op0 [0] (v := (.val (.tup []))) (E_store (b := [1002]) (o := 0) (cs := (lOrderT p_o)) (cells := zOrderT) (cells' := (lOrderT p_o)) (h' := [([1001], (.box (lOrderT p_o))), ([1002], (.box (lOrderT p_o)))]) (by kernel_rfl) (by kernel_rfl) (by kernel_rfl) rfl (by kernel_rfl) (by kernel_rfl) (by kernel_rfl) (by kernel_rfl)) rfl ?_
     refine G_op [0] (v := (ii 1)) (E_p (by kernel_rfl)) rfl rfl ?_
     refine G_nil ?_
     refine G_then ?_
     refine G_ret ?_
     refine G_thenR ?_
     refine G_retR ?_
     refine q_some fun hA => ?_
     show outV _ _ = some _
     kernel_rfl
    ·refine G_skip ?_
     refine G_then ?_
     refine G_seq ?_
     refine G_seq ?_
     refine G_region ?_
     refine G_op [0] (v := (.box [1001] 7)) (E_p (by kernel_rfl)) rfl rfl ?_
     refine G_op [0] (v := (ii p_o.Phase)) (E_load (by kernel_rfl)) rfl rfl ?_
     refine G_op [0] (v := (bb ((p_o.Phase != 2)))) (E_p (by kernel_rfl)) rfl rfl ?_
     refine G_op [0] (v := (bb ((p_o.Phase != 2)))) (E_p (by kernel_rfl)) rfl rfl ?_
     refine G_pure (l := t46_2) (st := ⟨⟨47, [(32, (bb (((p_o.Phase != 2) || (p_o.NewQty != 0))))), (7, (ii 0)), (6, (.box [1002] 0)), (3, (.box [1001] 0)), (1, (ii p_qty)), (2, (ii p_price))]⟩, mkH [([1001], (.box (lOrderT p_o))), ([1002], (.box zOrderT))]⟩) ?_ (fun r13 => ?_)
     ·refine G_op [0] (v := (bb (((p_o.Phase != 2) || (p_o.NewQty != 0))))) (E_p (by kernel_rfl)) rfl rfl ?_
      refine G_pure (l := []) (st := ⟨⟨47, [(36, (bb ((((p_o.Phase != 2) || (p_o.NewQty != 0)) || p_o.Asked)))), (7, (ii 0)), (6, (.box [1002] 0)), (3, (.box [1001] 0)), (1, (ii p_qty)), (2, (ii p_price))]⟩, mkH [([1001], (.box (lOrderT p_o))), ([1002], (.box zOrderT))]⟩) ?_ (fun r16 => ?_)
      ·refine G_nil ?_
       refine G_then ?_
       refine G_cond (t := (((p_o.Phase != 2) || (p_o.NewQty != 0)) || p_o.Asked)) (by kernel_rfl) (fun _ => ?_) (fun _ => ?_)
       ·refine G_seq ?_
        refine G_region ?_
        refine G_op [0] (v := (.agg (lOrderT p_o))) (E_load (by kernel_rfl)) rfl rfl ?_
        refine G_op0 [0] (v := (.val (.tup []))) (E_store (b := [1002]) (o := 0) (cs := (lOrderT p_o)) (cells := zOrderT) (cells' := (lOrderT p_o)) (h' := [([1001], (.box (lOrderT p_o))), ([1002], (.box (lOrderT p_o)))]) (by kernel_rfl) (by kernel_rfl) (by kernel_rfl) rfl (by kernel_rfl) (by kernel_rfl) (by kernel_rfl) (by kernel_rfl)) rfl ?_
        refine G_op [0] (v := (ii 8)) (E_p (by kernel_rfl)) rfl rfl ?_
        refine G_nil ?_
        refine G_then ?_
        refine G_ret ?_
        refine G_thenR ?_
        refine G_retR ?_
        refine q_some fun hA => ?_
        show outV _ _ = some _
        kernel_rfl
       ·refine G_skip ?_
        refine G_then ?_
        refine G_seq ?_
        refine G_region ?_
        refine G_op [0] (v := (ii p_qty)) (E_p (by kernel_rfl)) rfl rfl ?_
        refine G_op [0] (v := (.box [1001] 8)) (E_p (by kernel_rfl)) rfl rfl ?_
        refine G_op0 [0] (v := (.val (.tup []))) (E_store (b := [1001]) (o := 8) (cs := [(ii p_qty)]) (cells := (lOrderT p_o)) (cells' := [(ii p_o.Id), (ii p_o.Account), (ii p_o.Symbol), (ii p_o.Side), (ii p_o.Qty), (ii p_o.Price), (ii p_o.Filled), (ii p_o.Phase), (ii p_qty), (ii p_o.NewPrice), (ii p_o.Version), (bb p_o.Asked)]) (h' := [([1001], (.box [(ii p_o.Id), (ii p_o.Account), (ii p_o.Symbol), (ii p_o.Side), (ii p_o.Qty), (ii p_o.Price), (ii p_o.Filled), (ii p_o.Phase), (ii p_qty), (ii p_o.NewPrice), (ii p_o.Version), (bb p_o.Asked)])), ([1002], (.box zOrderT))]) (by kernel_rfl) (by kernel_rfl) (by kernel_rfl) rfl (by kernel_rfl) (by kernel_rfl) (by kernel_rfl) (by kernel_rfl)) rfl ?_
        refine G_nil ?_
        refine G_then ?_
        refine G_seq ?_
        refine G_region ?_
        refine G_op [0] (v := (ii p_price)) (E_p (by kernel_rfl)) rfl rfl ?_
        refine G_op [0] (v := (.box [1001] 9)) (E_p (by kernel_rfl)) rfl rfl ?_
        refine G_op0 [0] (v := (.val (.tup []))) (E_store (b := [1001]) (o := 9) (cs := [(ii p_price)]) (cells := [(ii p_o.Id), (ii p_o.Account), (ii p_o.Symbol), (ii p_o.Side), (ii p_o.Qty), (ii p_o.Price), (ii p_o.Filled), (ii p_o.Phase), (ii p_qty), (ii p_o.NewPrice), (ii p_o.Version), (bb p_o.Asked)]) (cells' := [(ii p_o.Id), (ii p_o.Account), (ii p_o.Symbol), (ii p_o.Side), (ii p_o.Qty), (ii p_o.Price), (ii p_o.Filled), (ii p_o.Phase), (ii p_qty), (ii p_price), (ii p_o.Version), (bb p_o.Asked)]) (h' := [([1001], (.box [(ii p_o.Id), (ii p_o.Account), (ii p_o.Symbol), (ii p_o.Side), (ii p_o.Qty), (ii p_o.Price), (ii p_o.Filled), (ii p_o.Phase), (ii p_qty), (ii p_price), (ii p_o.Version), (bb p_o.Asked)])), ([1002], (.box zOrderT))]) (by kernel_rfl) (by kernel_rfl) (by kernel_rfl) rfl (by kernel_rfl) (by kernel_rfl) (by kernel_rfl) (by kernel_rfl)) rfl ?_
        refine G_nil ?_
        refine G_then ?_
        refine G_seq ?_
        refine G_region ?_
        refine G_op [0] (v := (.box [1001] 10)) (E_p (by kernel_rfl)) rfl rfl ?_
        refine G_op [0] (v := (ii p_o.Version)) (E_load (by kernel_rfl)) rfl rfl ?_
        refine G_op [0] (v := (ii ((IntKind.wrap .i64 (p_o.Version + 1))))) (E_p (by kernel_rfl)) rfl rfl ?_
        refine G_op [0] (v := (.box [1001] 10)) (E_p (by kernel_rfl)) rfl rfl ?_
        refine G_op0 [0] (v := (.val (.tup []))) (E_store (b := [1001]) (o := 10) (cs := [(ii ((IntKind.wrap .i64 (p_o.Version + 1))))]) (cells := [(ii p_o.Id), (ii p_o.Account), (ii p_o.Symbol), (ii p_o.Side), (ii p_o.Qty), (ii p_o.Price), (ii p_o.Filled), (ii p_o.Phase), (ii p_qty), (ii p_price), (ii p_o.Version), (bb p_o.Asked)]) (cells' := [(ii p_o.Id), (ii p_o.Account), (ii p_o.Symbol), (ii p_o.Side), (ii p_o.Qty), (ii p_o.Price), (ii p_o.Filled), (ii p_o.Phase), (ii p_qty), (ii p_price), (ii ((IntKind.wrap .i64 (p_o.Version + 1)))), (bb p_o.Asked)]) (h' := [([1001], (.box [(ii p_o.Id), (ii p_o.Account), (ii p_o.Symbol), (ii p_o.Side), (ii p_o.Qty), (ii p_o.Price), (ii p_o.Filled), (ii p_o.Phase), (ii p_qty), (ii p_price), (ii ((IntKind.wrap .i64 (p_o.Version + 1)))), (bb p_o.Asked)])), ([1002], (.box zOrderT))]) (by kernel_rfl) (by kernel_rfl) (by kernel_rfl) rfl (by kernel_rfl) (by kernel_rfl) (by kernel_rfl) (by kernel_rfl)) rfl ?_
        refine G_nil ?_
        refine G_then ?_
        refine G_subW (s0 := ⟨⟨47, [(7, (ii 0)), (6, (.box [1002] 0)), (3, (.box [1001] 0))]⟩, mkH [([1001], (.box [(ii p_o.Id), (ii p_o.Account), (ii p_o.Symbol), (ii p_o.Side), (ii p_o.Qty), (ii p_o.Price), (ii p_o.Filled), (ii p_o.Phase), (ii p_qty), (ii p_price), (ii ((IntKind.wrap .i64 (p_o.Version + 1)))), (bb p_o.Asked)])), ([1002], (.box zOrderT))]⟩) (by exact Sub_env ⟨.refl _, .refl _, .refl _, trivial⟩) ?_
        refine G_seq ?_
        refine G_region ?_
        refine G_op [0] (v := (.agg [(ii p_o.Id), (ii p_o.Account), (ii p_o.Symbol), (ii p_o.Side), (ii p_o.Qty), (ii p_o.Price), (ii p_o.Filled), (ii p_o.Phase), (ii p_qty), (ii p_price), (ii ((IntKind.wrap .i64 (p_o.Version + 1)))), (bb p_o.Asked)])) (E_load (by kernel_rfl)) rfl rfl ?_
        refine G_op0 [0] (v := (.val (.tup []))) (E_store (b := [1002]) (o := 0) (cs := [(ii p_o.Id), (ii p_o.Account), (ii p_o.Symbol), (ii p_o.Side), (ii p_o.Qty), (ii p_o.Price), (ii p_o.Filled), (ii p_o.Phase), (ii p_qty), (ii p_price), (ii ((IntKind.wrap .i64 (p_o.Version + 1)))), (bb p_o.Asked)]) (cells := zOrderT) (cells' := [(ii p_o.Id), (ii p_o.Account), (ii p_o.Symbol), (ii p_o.Side), (ii p_o.Qty), (ii p_o.Price), (ii p_o.Filled), (ii p_o.Phase), (ii p_qty), (ii p_price), (ii ((IntKind.wrap .i64 (p_o.Version + 1)))), (bb p_o.Asked)]) (h' := [([1001], (.box [(ii p_o.Id), (ii p_o.Account), (ii p_o.Symbol), (ii p_o.Side), (ii p_o.Qty), (ii p_o.Price), (ii p_o.Filled), (ii p_o.Phase), (ii p_qty), (ii p_price), (ii ((IntKind.wrap .i64 (p_o.Version + 1)))), (bb p_o.Asked)])), ([1002], (.box [(ii p_o.Id), (ii p_o.Account), (ii p_o.Symbol), (ii p_o.Side), (ii p_o.Qty), (ii p_o.Price), (ii p_o.Filled), (ii p_o.Phase), (ii p_qty), (ii p_price), (ii ((IntKind.wrap .i64 (p_o.Version + 1)))), (bb p_o.Asked)]))]) (by kernel_rfl) (by kernel_rfl) (by kernel_rfl) rfl (by kernel_rfl) (by kernel_rfl) (by kernel_rfl) (by kernel_rfl)) rfl ?_
        refine G_op [0] (v := (ii 0)) (E_p (by kernel_rfl)) rfl rfl ?_
        refine G_nil ?_
        refine G_then ?_
        refine G_ret ?_
        refine G_retR ?_
        refine q_some fun hA => ?_
        show outV _ _ = some _
        kernel_rfl
      ·refine q_two ((p_o.Phase != 2) || (p_o.NewQty != 0)) (fun h14 => ?_) (fun h14 => ?_)
       ·refine G_subR (Sub_lit (t := 33) (v := true) rfl h14) ?_
        refine G_off rfl rfl ?_
        refine G_off rfl rfl ?_
        refine G_op [0] (v := (bb true)) (E_p (by kernel_rfl)) rfl rfl ?_
        exact q_some fun h => RP_sub (by exact Sub_env ⟨(Wk_or1 h14), .refl _, .refl _, .refl _, .refl _, .refl _, trivial⟩) h
       ·refine G_subR (Sub_lit (t := 33) (v := false) rfl h14) ?_
        refine G_op [0] (v := (.box [1001] 11)) (E_p (by kernel_rfl)) rfl rfl ?_
        refine G_op [0] (v := (bb p_o.Asked)) (E_load (by kernel_rfl)) rfl rfl ?_
        refine G_op [0] (v := (bb p_o.Asked)) (E_p (by kernel_rfl)) rfl rfl ?_
        exact q_some fun h => RP_sub (by exact Sub_env ⟨(Wk_or0 h14), .refl _, .refl _, .refl _, .refl _, .refl _, trivial⟩) h
     ·refine q_two (p_o.Phase != 2) (fun h11 => ?_) (fun h11 => ?_)
      ·refine G_subR (Sub_lit (t := 28) (v := true) rfl h11) ?_
       refine G_off rfl rfl ?_
       refine G_off rfl rfl ?_
       refine G_off rfl rfl ?_
       refine G_op [0] (v := (bb true)) (E_p (by kernel_rfl)) rfl rfl ?_
       exact q_some fun h => RP_sub (by exact Sub_env ⟨(Wk_or1 h11), .refl _, .refl _, .refl _, .refl _, .refl _, trivial⟩) h
      ·refine G_subR (Sub_lit (t := 28) (v := false) rfl h11) ?_
       refine G_op [0] (v := (.box [1001] 8)) (E_p (by kernel_rfl)) rfl rfl ?_
       refine G_op [0] (v := (ii p_o.NewQty)) (E_load (by kernel_rfl)) rfl rfl ?_
       refine G_op [0] (v := (bb ((p_o.NewQty != 0)))) (E_p (by kernel_rfl)) rfl rfl ?_
       refine G_op [0] (v := (bb ((p_o.NewQty != 0)))) (E_p (by kernel_rfl)) rfl rfl ?_
       exact q_some fun h => RP_sub (by exact Sub_env ⟨(Wk_or0 h11), .refl _, .refl _, .refl _, .refl _, .refl _, trivial⟩) h
   ·refine q_two (((!v1) || (decide (p_qty < 1))) || (decide (p_price < 1))) (fun h8 => ?_) (fun h8 => ?_)
    ·refine G_subR (Sub_lit (t := 19) (v := true) rfl h8) ?_
     refine G_off rfl rfl ?_
     refine G_off rfl rfl ?_
     refine G_off rfl rfl ?_
     refine G_op [0] (v := (bb true)) (E_p (by kernel_rfl)) rfl rfl ?_
     exact q_some fun h => RP_sub (by exact Sub_env ⟨(Wk_or1 h8), .refl _, .refl _, .refl _, .refl _, .refl _, trivial⟩) h
    ·refine G_subR (Sub_lit (t := 19) (v := false) rfl h8) ?_
     refine G_op [0] (v := (.box [1001] 10)) (E_p (by kernel_rfl)) rfl rfl ?_
     refine G_op [0] (v := (ii p_o.Version)) (E_load (by kernel_rfl)) rfl rfl ?_
     refine G_op [0] (v := (bb ((p_o.Version == 9223372036854775807)))) (E_p (by kernel_rfl)) rfl rfl ?_
     refine G_op [0] (v := (bb ((p_o.Version == 9223372036854775807)))) (E_p (by kernel_rfl)) rfl rfl ?_
     exact q_some fun h => RP_sub (by exact Sub_env ⟨(Wk_or0 h8), .refl _, .refl _, .refl _, .refl _, .refl _, trivial⟩) h
  ·refine q_two ((!v1) || (decide (p_qty < 1))) (fun h5 => ?_) (fun h5 => ?_)
   ·refine G_subR (Sub_lit (t := 15) (v := true) rfl h5) ?_
    refine G_off rfl rfl ?_
    refine G_off rfl rfl ?_
    refine G_op [0] (v := (bb true)) (E_p (by kernel_rfl)) rfl rfl ?_
    exact q_some fun h => RP_sub (by exact Sub_env ⟨(Wk_or1 h5), .refl _, .refl _, .refl _, .refl _, .refl _, trivial⟩) h
   ·refine G_subR (Sub_lit (t := 15) (v := false) rfl h5) ?_
    refine G_op [0] (v := (ii p_price)) (E_p (by kernel_rfl)) rfl rfl ?_
    refine G_op [0] (v := (bb ((decide (p_price < 1))))) (E_p (by kernel_rfl)) rfl rfl ?_
    refine G_op [0] (v := (bb ((decide (p_price < 1))))) (E_p (by kernel_rfl)) rfl rfl ?_
    exact q_some fun h => RP_sub (by exact Sub_env ⟨(Wk_or0 h5), .refl _, .refl _, .refl _, .refl _, .refl _, trivial⟩) h
 ·refine q_two (!v1) (fun h2 => ?_) (fun h2 => ?_)
  ·refine G_subR (Sub_lit (t := 11) (v := true) rfl h2) ?_
   refine G_off rfl rfl ?_
   refine G_off rfl rfl ?_
   refine G_op [0] (v := (bb true)) (E_p (by kernel_rfl)) rfl rfl ?_
   exact q_some fun h => RP_sub (by exact Sub_env ⟨(Wk_or1 h2), .refl _, .refl _, .refl _, .refl _, .refl _, trivial⟩) h
  ·refine G_subR (Sub_lit (t := 11) (v := false) rfl h2) ?_
   refine G_op [0] (v := (ii p_qty)) (E_p (by kernel_rfl)) rfl rfl ?_
   refine G_op [0] (v := (bb ((decide (p_qty < 1))))) (E_p (by kernel_rfl)) rfl rfl ?_
   refine G_op [0] (v := (bb ((decide (p_qty < 1))))) (E_p (by kernel_rfl)) rfl rfl ?_
   exact q_some fun h => RP_sub (by exact Sub_env ⟨(Wk_or0 h2), .refl _, .refl _, .refl _, .refl _, .refl _, trivial⟩) h
theorem s46 (x0 : OrderT) (x1 : Int) (x2 : Int) (ds : List DV) (hd : List.map z1 ds = List.map z1 [.agg (e_OrderT x0), .int .i64 x1, .int .i64 x2]) : sp46 ds = (g_snaffleref07_Change x0 x1 x2).map fun r => .tup [.agg (e_OrderT r.1), .int .i64 r.2] :=
 specT_at (ea := fun (a : OrderT × Int × Int) => [.agg (e_OrderT a.1), .int .i64 a.2.1, .int .i64 a.2.2]) (eb := fun (r : (OrderT × Int)) => .tup [.agg (e_OrderT r.1), .int .i64 r.2]) (g := fun (a : OrderT × Int × Int) => g_snaffleref07_Change a.1 a.2.1 a.2.2) inj46 (x0, x1, x2) hd

def k48_0 : ACode := (.seq (.region (⟨(some 7), (.r (.load 12 true (.t 1))), none⟩ :: ⟨none, (.w (.store 12 (.t 2) (.t 7))), none⟩ :: ⟨(some 3), (.p (.mv (.c (.int .i64 1)))), none⟩ :: [])) .ret)
def k48_1 : ACode := (.cond (.t 6) k48_0 .skip)
def k48_2 : ACode := (.seq (.region (⟨(some 4), (.r (.load 12 true (.t 1))), none⟩ :: ⟨(some 5), (.r (.call 42 [(.t 4)])), none⟩ :: ⟨(some 6), (.p (.un .not (.t 5))), none⟩ :: [])) k48_1)
def k48_3 : ACode := (.region (⟨(some 8), (.p (.foff 11 (.t 1))), none⟩ :: ⟨(some 9), (.r (.load 1 false (.t 8))), none⟩ :: ⟨(some 10), (.p (.mv (.t 9))), none⟩ :: ⟨(some 11), (.p (.foff 7 (.t 1))), (some (10, false))⟩ :: ⟨(some 12), (.r (.load 1 false (.t 11))), (some (10, false))⟩ :: ⟨(some 13), (.p (.bin .eql (.t 12) (.c (.int .i64 3)))), (some (10, false))⟩ :: ⟨(some 14), (.p (.pick (.t 10) (.c (.bool true)) (.t 13))), none⟩ :: []))
def k48_4 : ACode := (.seq (.region (⟨(some 15), (.r (.load 12 true (.t 1))), none⟩ :: ⟨none, (.w (.store 12 (.t 2) (.t 15))), none⟩ :: ⟨(some 3), (.p (.mv (.c (.int .i64 8)))), none⟩ :: [])) .ret)
def k48_5 : ACode := (.cond (.t 14) k48_4 .skip)
def k48_6 : ACode := (.seq k48_3 k48_5)
def k48_7 : ACode := (.seq (.region (⟨(some 17), (.r (.load 12 true (.t 1))), none⟩ :: ⟨none, (.w (.store 12 (.t 2) (.t 17))), none⟩ :: ⟨(some 3), (.p (.mv (.c (.int .i64 0)))), none⟩ :: [])) .ret)
def k48_8 : ACode := (.seq (.region (⟨(some 16), (.p (.foff 11 (.t 1))), none⟩ :: ⟨none, (.w (.store 1 (.t 16) (.c (.bool true)))), none⟩ :: [])) k48_7)
def k48_9 : ACode := (.seq k48_6 k48_8)
def k48_10 : ACode := (.seq k48_2 k48_9)
def cd48 : ACode := (.seq (.region (⟨(some 1), (.a (.bx (.t 0))), none⟩ :: ⟨(some 2), (.a (.alloc [(.int .i64 0), (.int .i64 0), (.int .i64 0), (.int .i64 0), (.int .i64 0), (.int .i64 0), (.int .i64 0), (.int .i64 0), (.int .i64 0), (.int .i64 0), (.int .i64 0), (.bool false)])), none⟩ :: ⟨(some 3), (.p (.mv (.c (.int .i64 0)))), none⟩ :: [])) k48_10)
def rs48 : List ARes := [(.cell 2 12 true), (.tmp 3)]
def af48 : AFn := ⟨cd48, rs48, 18⟩
theorem c48 : compF Try.prog 48 = some af48 := by kernel_rfl
noncomputable def g_snaffleref07_End (p_o : OrderT) : Option (OrderT × Int) := (Option.bind (g_snaffleref07_Right p_o) fun v1 => (bif (!v1) then (some (p_o, 1)) else (bif (p_o.Asked || (p_o.Phase == 3)) then (some (p_o, 8)) else (some ((OrderT.mk p_o.Id p_o.Account p_o.Symbol p_o.Side p_o.Qty p_o.Price p_o.Filled p_o.Phase p_o.NewQty p_o.NewPrice p_o.Version true), 0)))))
noncomputable def sp48 : List DV → Option DV := specT (fun (a : OrderT) => [.agg (e_OrderT a)]) (fun (r : (OrderT × Int)) => .tup [.agg (e_OrderT r.1), .int .i64 r.2]) (fun (a : OrderT) => g_snaffleref07_End a)
theorem inj48 : ∀ (a b : OrderT), List.map z1 ((fun (a : OrderT) => [.agg (e_OrderT a)]) a) = List.map z1 ((fun (a : OrderT) => [.agg (e_OrderT a)]) b) → a = b := by
 intro a0 b0 h
 simp only [List.map_cons, List.map_nil, List.cons.injEq, and_true] at h
 exact (e_OrderT_inj (DV.agg.inj h))
set_option maxHeartbeats 1000000 in
theorem w48 {C : FuncId → Con} (hC : ConOk Try.prog C) {q42 : List DV → Option DV} (hc42 : C 42 = .val q42) (hs42 : ∀ (x0 : OrderT) (ds : List DV), List.map z1 ds = List.map z1 [.agg (e_OrderT x0)] → q42 ds = (g_snaffleref07_Right x0).map fun r => .bool r) : ValOk Try.prog 48 sp48 := by
 refine valT_of hC c48 _ _ _ inj48 ?_
 intro p_o
 show Imq (g_snaffleref07_End p_o) (fun _ => True) fun r => WP Try.prog C (fun _ => False) cd48 (retQ fun s => outV s rs48 = some (.tup [.agg (e_OrderT r.1), .int .i64 r.2])) ⟨⟨18, [(0, (.val (.agg [(.int .i64 p_o.Id), (.int .i64 p_o.Account), (.int .i64 p_o.Symbol), (.int .i64 p_o.Side), (.int .i64 p_o.Qty), (.int .i64 p_o.Price), (.int .i64 p_o.Filled), (.int .i64 p_o.Phase), (.int .i64 p_o.NewQty), (.int .i64 p_o.NewPrice), (.int .i64 p_o.Version), (.bool p_o.Asked)])))]⟩, mkH []⟩
 unfold g_snaffleref07_End
 refine G_seq ?_
 refine G_region ?_
 refine G_op [1001] (v := (.box [1001] 0)) (E_a (u := (.box [1001] 0)) (b := (.box (lOrderT p_o))) (h' := [([1001], (.box (lOrderT p_o)))]) (by kernel_rfl) (by kernel_rfl) (by kernel_rfl)) rfl rfl ?_
 refine G_op [1002] (v := (.box [1002] 0)) (E_a (u := (.box [1002] 0)) (b := (.box zOrderT)) (h' := [([1001], (.box (lOrderT p_o))), ([1002], (.box zOrderT))]) (by kernel_rfl) (by kernel_rfl) (by kernel_rfl)) rfl rfl ?_
 refine G_op [0] (v := (ii 0)) (E_p (by kernel_rfl)) rfl rfl ?_
 refine G_nil ?_
 refine G_then ?_
 refine G_seq ?_
 refine G_seq ?_
 refine G_region ?_
 refine G_op [0] (v := (.agg (lOrderT p_o))) (E_load (by kernel_rfl)) rfl rfl ?_
 refine q_bind fun v1 hv1 => ?_
 refine G_op [0] (v := (bb v1)) (E_call (ds := [.agg (e_OrderT p_o)]) (r := .bool v1) hc42 (by kernel_rfl) ((hs42 p_o _ (by kernel_rfl)).trans (congrArg _ hv1))) rfl rfl ?_
 refine G_op [0] (v := (bb ((!v1)))) (E_p (by kernel_rfl)) rfl rfl ?_
 refine G_nil ?_
 refine G_then ?_
 refine G_cond (t := (!v1)) (by kernel_rfl) (fun _ => ?_) (fun _ => ?_)
 ·refine G_seq ?_
  refine G_region ?_
  refine G_op [0] (v := (.agg (lOrderT p_o))) (E_load (by kernel_rfl)) rfl rfl ?_
  refine G_op0 [0] (v := (.val (.tup []))) (E_store (b := [1002]) (o := 0) (cs := (lOrderT p_o)) (cells := zOrderT) (cells' := (lOrderT p_o)) (h' := [([1001], (.box (lOrderT p_o))), ([1002], (.box (lOrderT p_o)))]) (by kernel_rfl) (by kernel_rfl) (by kernel_rfl) rfl (by kernel_rfl) (by kernel_rfl) (by kernel_rfl) (by kernel_rfl)) rfl ?_
  refine G_op [0] (v := (ii 1)) (E_p (by kernel_rfl)) rfl rfl ?_
  refine G_nil ?_
  refine G_then ?_
  refine G_ret ?_
  refine G_thenR ?_
  refine G_retR ?_
  refine q_some fun hA => ?_
  show outV _ _ = some _
  kernel_rfl
 ·refine G_skip ?_
  refine G_then ?_
  refine G_seq ?_
  refine G_seq ?_
  refine G_region ?_
  refine G_op [0] (v := (.box [1001] 11)) (E_p (by kernel_rfl)) rfl rfl ?_
  refine G_op [0] (v := (bb p_o.Asked)) (E_load (by kernel_rfl)) rfl rfl ?_
  refine G_op [0] (v := (bb p_o.Asked)) (E_p (by kernel_rfl)) rfl rfl ?_
  refine G_pure (l := []) (st := ⟨⟨18, [(14, (bb ((p_o.Asked || (p_o.Phase == 3))))), (3, (ii 0)), (2, (.box [1002] 0)), (1, (.box [1001] 0))]⟩, mkH [([1001], (.box (lOrderT p_o))), ([1002], (.box zOrderT))]⟩) ?_ (fun r4 => ?_)
  ·refine G_nil ?_
   refine G_then ?_
   refine G_cond (t := (p_o.Asked || (p_o.Phase == 3))) (by kernel_rfl) (fun _ => ?_) (fun _ => ?_)
   ·refine G_seq ?_
    refine G_region ?_
    refine G_op [0] (v := (.agg (lOrderT p_o))) (E_load (by kernel_rfl)) rfl rfl ?_
    refine G_op0 [0] (v := (.val (.tup []))) (E_store (b := [1002]) (o := 0) (cs := (lOrderT p_o)) (cells := zOrderT) (cells' := (lOrderT p_o)) (h' := [([1001], (.box (lOrderT p_o))), ([1002], (.box (lOrderT p_o)))]) (by kernel_rfl) (by kernel_rfl) (by kernel_rfl) rfl (by kernel_rfl) (by kernel_rfl) (by kernel_rfl) (by kernel_rfl)) rfl ?_
    refine G_op [0] (v := (ii 8)) (E_p (by kernel_rfl)) rfl rfl ?_
    refine G_nil ?_
    refine G_then ?_
    refine G_ret ?_
    refine G_thenR ?_
    refine G_retR ?_
    refine q_some fun hA => ?_
    show outV _ _ = some _
    kernel_rfl
   ·refine G_skip ?_
    refine G_then ?_
    refine G_seq ?_
    refine G_region ?_
    refine G_op [0] (v := (.box [1001] 11)) (E_p (by kernel_rfl)) rfl rfl ?_
    refine G_op0 [0] (v := (.val (.tup []))) (E_store (b := [1001]) (o := 11) (cs := [(bb true)]) (cells := (lOrderT p_o)) (cells' := [(ii p_o.Id), (ii p_o.Account), (ii p_o.Symbol), (ii p_o.Side), (ii p_o.Qty), (ii p_o.Price), (ii p_o.Filled), (ii p_o.Phase), (ii p_o.NewQty), (ii p_o.NewPrice), (ii p_o.Version), (bb true)]) (h' := [([1001], (.box [(ii p_o.Id), (ii p_o.Account), (ii p_o.Symbol), (ii p_o.Side), (ii p_o.Qty), (ii p_o.Price), (ii p_o.Filled), (ii p_o.Phase), (ii p_o.NewQty), (ii p_o.NewPrice), (ii p_o.Version), (bb true)])), ([1002], (.box zOrderT))]) (by kernel_rfl) (by kernel_rfl) (by kernel_rfl) rfl (by kernel_rfl) (by kernel_rfl) (by kernel_rfl) (by kernel_rfl)) rfl ?_
    refine G_nil ?_
    refine G_then ?_
    refine G_seq ?_
    refine G_region ?_
    refine G_op [0] (v := (.agg [(ii p_o.Id), (ii p_o.Account), (ii p_o.Symbol), (ii p_o.Side), (ii p_o.Qty), (ii p_o.Price), (ii p_o.Filled), (ii p_o.Phase), (ii p_o.NewQty), (ii p_o.NewPrice), (ii p_o.Version), (bb true)])) (E_load (by kernel_rfl)) rfl rfl ?_
    refine G_op0 [0] (v := (.val (.tup []))) (E_store (b := [1002]) (o := 0) (cs := [(ii p_o.Id), (ii p_o.Account), (ii p_o.Symbol), (ii p_o.Side), (ii p_o.Qty), (ii p_o.Price), (ii p_o.Filled), (ii p_o.Phase), (ii p_o.NewQty), (ii p_o.NewPrice), (ii p_o.Version), (bb true)]) (cells := zOrderT) (cells' := [(ii p_o.Id), (ii p_o.Account), (ii p_o.Symbol), (ii p_o.Side), (ii p_o.Qty), (ii p_o.Price), (ii p_o.Filled), (ii p_o.Phase), (ii p_o.NewQty), (ii p_o.NewPrice), (ii p_o.Version), (bb true)]) (h' := [([1001], (.box [(ii p_o.Id), (ii p_o.Account), (ii p_o.Symbol), (ii p_o.Side), (ii p_o.Qty), (ii p_o.Price), (ii p_o.Filled), (ii p_o.Phase), (ii p_o.NewQty), (ii p_o.NewPrice), (ii p_o.Version), (bb true)])), ([1002], (.box [(ii p_o.Id), (ii p_o.Account), (ii p_o.Symbol), (ii p_o.Side), (ii p_o.Qty), (ii p_o.Price), (ii p_o.Filled), (ii p_o.Phase), (ii p_o.NewQty), (ii p_o.NewPrice), (ii p_o.Version), (bb true)]))]) (by kernel_rfl) (by kernel_rfl) (by kernel_rfl) rfl (by kernel_rfl) (by kernel_rfl) (by kernel_rfl) (by kernel_rfl)) rfl ?_
    refine G_op [0] (v := (ii 0)) (E_p (by kernel_rfl)) rfl rfl ?_
    refine G_nil ?_
    refine G_then ?_
    refine G_ret ?_
    refine G_retR ?_
    refine q_some fun hA => ?_
    show outV _ _ = some _
    kernel_rfl
  ·refine q_two p_o.Asked (fun h2 => ?_) (fun h2 => ?_)
   ·refine G_subR (Sub_lit (t := 10) (v := true) rfl h2) ?_
    refine G_off rfl rfl ?_
    refine G_off rfl rfl ?_
    refine G_off rfl rfl ?_
    refine G_op [0] (v := (bb true)) (E_p (by kernel_rfl)) rfl rfl ?_
    exact q_some fun h => RP_sub (by exact Sub_env ⟨(Wk_or1 h2), .refl _, .refl _, .refl _, trivial⟩) h
   ·refine G_subR (Sub_lit (t := 10) (v := false) rfl h2) ?_
    refine G_op [0] (v := (.box [1001] 7)) (E_p (by kernel_rfl)) rfl rfl ?_
    refine G_op [0] (v := (ii p_o.Phase)) (E_load (by kernel_rfl)) rfl rfl ?_
    refine G_op [0] (v := (bb ((p_o.Phase == 3)))) (E_p (by kernel_rfl)) rfl rfl ?_
    refine G_op [0] (v := (bb ((p_o.Phase == 3)))) (E_p (by kernel_rfl)) rfl rfl ?_
    exact q_some fun h => RP_sub (by exact Sub_env ⟨(Wk_or0 h2), .refl _, .refl _, .refl _, trivial⟩) h
theorem s48 (x0 : OrderT) (ds : List DV) (hd : List.map z1 ds = List.map z1 [.agg (e_OrderT x0)]) : sp48 ds = (g_snaffleref07_End x0).map fun r => .tup [.agg (e_OrderT r.1), .int .i64 r.2] :=
 specT_at (ea := fun (a : OrderT) => [.agg (e_OrderT a)]) (eb := fun (r : (OrderT × Int)) => .tup [.agg (e_OrderT r.1), .int .i64 r.2]) (g := fun (a : OrderT) => g_snaffleref07_End a) inj48 x0 hd

def k89_0 : ACode := (.region (⟨(some 5), (.p (.mv (.t 0))), none⟩ :: ⟨(some 6), (.p (.bin .add (.t 5) (.c (.int .i64 1)))), none⟩ :: ⟨(some 7), (.p (.un .neg (.t 6))), none⟩ :: ⟨(some 8), (.p (.conv .u64 (.t 7))), none⟩ :: ⟨(some 9), (.p (.bin .add (.t 8) (.c (.int .u64 1)))), none⟩ :: ⟨(some 2), (.p (.mv (.t 9))), none⟩ :: []))
def k89_1 : ACode := (.seq k89_0 .ret)
def k89_2 : ACode := (.cond (.t 4) k89_1 .skip)
def k89_3 : ACode := (.seq (.region (⟨(some 3), (.p (.mv (.t 0))), none⟩ :: ⟨(some 4), (.p (.bin .lss (.t 3) (.c (.int .i64 0)))), none⟩ :: [])) k89_2)
def k89_4 : ACode := (.seq (.region (⟨(some 10), (.p (.mv (.t 0))), none⟩ :: ⟨(some 11), (.p (.conv .u64 (.t 10))), none⟩ :: ⟨(some 2), (.p (.mv (.t 11))), none⟩ :: [])) .ret)
def k89_5 : ACode := (.seq k89_3 k89_4)
def cd89 : ACode := (.seq (.region (⟨(some 2), (.p (.mv (.c (.int .u64 0)))), none⟩ :: [])) k89_5)
def rs89 : List ARes := [(.tmp 2)]
def af89 : AFn := ⟨cd89, rs89, 12⟩
theorem c89 : compF Try.prog 89 = some af89 := by kernel_rfl
noncomputable def g_snaffleref01_whole (p_a : Int) : Option Int := (bif (decide (p_a < 0)) then (some (IntKind.wrap .u64 ((IntKind.wrap .u64 (IntKind.wrap .i64 (0 - (IntKind.wrap .i64 (p_a + 1))))) + 1))) else (some (IntKind.wrap .u64 p_a)))
noncomputable def sp89 : List DV → Option DV := specT (fun (a : Int) => [.int .i64 a]) (fun (r : Int) => .int .u64 r) (fun (a : Int) => g_snaffleref01_whole a)
theorem inj89 : ∀ (a b : Int), List.map z1 ((fun (a : Int) => [.int .i64 a]) a) = List.map z1 ((fun (a : Int) => [.int .i64 a]) b) → a = b := by
 intro a0 b0 h
 simp only [List.map_cons, List.map_nil, List.cons.injEq, and_true] at h
 exact (DV.int.inj h).2
set_option maxHeartbeats 1000000 in
theorem w89 {C : FuncId → Con} (hC : ConOk Try.prog C) : ValOk Try.prog 89 sp89 := by
 refine valT_of hC c89 _ _ _ inj89 ?_
 intro p_a
 show Imq (g_snaffleref01_whole p_a) (fun _ => True) fun r => WP Try.prog C (fun _ => False) cd89 (retQ fun s => outV s rs89 = some (.int .u64 r)) ⟨⟨12, [(0, (ii p_a))]⟩, mkH []⟩
 unfold g_snaffleref01_whole
 refine G_seq ?_
 refine G_region ?_
 refine G_op [0] (v := (.val (.int .u64 0))) (E_p (by kernel_rfl)) rfl rfl ?_
 refine G_nil ?_
 refine G_then ?_
 refine G_seq ?_
 refine G_seq ?_
 refine G_region ?_
 refine G_op [0] (v := (ii p_a)) (E_p (by kernel_rfl)) rfl rfl ?_
 refine G_op [0] (v := (bb ((decide (p_a < 0))))) (E_p (by kernel_rfl)) rfl rfl ?_
 refine G_nil ?_
 refine G_then ?_
 refine G_cond (t := (decide (p_a < 0))) (by kernel_rfl) (fun _ => ?_) (fun _ => ?_)
 ·refine G_seq ?_
  refine G_region ?_
  refine G_op [0] (v := (ii p_a)) (E_p (by kernel_rfl)) rfl rfl ?_
  refine G_op [0] (v := (ii ((IntKind.wrap .i64 (p_a + 1))))) (E_p (by kernel_rfl)) rfl rfl ?_
  refine G_op [0] (v := (ii ((IntKind.wrap .i64 (0 - (IntKind.wrap .i64 (p_a + 1))))))) (E_p (by kernel_rfl)) rfl rfl ?_
  refine G_op [0] (v := (.val (.int .u64 (IntKind.wrap .u64 (IntKind.wrap .i64 (0 - (IntKind.wrap .i64 (p_a + 1)))))))) (E_p (by kernel_rfl)) rfl rfl ?_
  refine G_op [0] (v := (.val (.int .u64 (IntKind.wrap .u64 ((IntKind.wrap .u64 (IntKind.wrap .i64 (0 - (IntKind.wrap .i64 (p_a + 1))))) + 1))))) (E_p (by kernel_rfl)) rfl rfl ?_
  refine G_op [0] (v := (.val (.int .u64 (IntKind.wrap .u64 ((IntKind.wrap .u64 (IntKind.wrap .i64 (0 - (IntKind.wrap .i64 (p_a + 1))))) + 1))))) (E_p (by kernel_rfl)) rfl rfl ?_
  refine G_nil ?_
  refine G_then ?_
  refine G_ret ?_
  refine G_thenR ?_
  refine G_retR ?_
  refine q_some fun hA => ?_
  show outV _ _ = some _
  kernel_rfl
 ·refine G_skip ?_
  refine G_then ?_
  refine G_seq ?_
  refine G_region ?_
  refine G_op [0] (v := (ii p_a)) (E_p (by kernel_rfl)) rfl rfl ?_
  refine G_op [0] (v := (.val (.int .u64 (IntKind.wrap .u64 p_a)))) (E_p (by kernel_rfl)) rfl rfl ?_
  refine G_op [0] (v := (.val (.int .u64 (IntKind.wrap .u64 p_a)))) (E_p (by kernel_rfl)) rfl rfl ?_
  refine G_nil ?_
  refine G_then ?_
  refine G_ret ?_
  refine G_retR ?_
  refine q_some fun hA => ?_
  show outV _ _ = some _
  kernel_rfl
theorem s89 (x0 : Int) (ds : List DV) (hd : List.map z1 ds = List.map z1 [.int .i64 x0]) : sp89 ds = (g_snaffleref01_whole x0).map fun r => .int .u64 r :=
 specT_at (ea := fun (a : Int) => [.int .i64 a]) (eb := fun (r : Int) => .int .u64 r) (g := fun (a : Int) => g_snaffleref01_whole a) inj89 x0 hd

def k74_0 : ACode := (.region (⟨(some 15), (.p (.mv (.t 0))), none⟩ :: ⟨(some 16), (.r (.call 89 [(.t 15)])), none⟩ :: ⟨(some 17), (.p (.mv (.t 1))), none⟩ :: ⟨(some 18), (.r (.call 89 [(.t 17)])), none⟩ :: ⟨(some 6), (.p (.mv (.t 16))), none⟩ :: ⟨(some 7), (.p (.mv (.t 18))), none⟩ :: []))
def k74_1 : ACode := (.region (⟨(some 19), (.p (.mv (.t 6))), none⟩ :: ⟨(some 20), (.p (.bin .shr (.t 19) (.c (.int .u64 32)))), none⟩ :: ⟨(some 21), (.p (.mv (.t 6))), none⟩ :: ⟨(some 22), (.p (.bin .and (.t 21) (.c (.int .u64 4294967295)))), none⟩ :: ⟨(some 23), (.p (.mv (.t 7))), none⟩ :: ⟨(some 24), (.p (.bin .shr (.t 23) (.c (.int .u64 32)))), none⟩ :: ⟨(some 25), (.p (.mv (.t 7))), none⟩ :: ⟨(some 26), (.p (.bin .and (.t 25) (.c (.int .u64 4294967295)))), none⟩ :: ⟨(some 8), (.p (.mv (.t 20))), none⟩ :: ⟨(some 9), (.p (.mv (.t 22))), none⟩ :: ⟨(some 10), (.p (.mv (.t 24))), none⟩ :: ⟨(some 11), (.p (.mv (.t 26))), none⟩ :: []))
def k74_2 : ACode := (.region (⟨(some 27), (.p (.mv (.t 8))), none⟩ :: ⟨(some 28), (.p (.bin .gtr (.t 27) (.c (.int .u64 0)))), none⟩ :: ⟨(some 29), (.p (.mv (.t 28))), none⟩ :: ⟨(some 30), (.p (.mv (.t 10))), (some (29, true))⟩ :: ⟨(some 31), (.p (.bin .gtr (.t 30) (.c (.int .u64 0)))), (some (29, true))⟩ :: ⟨(some 32), (.p (.pick (.t 29) (.t 31) (.c (.bool false)))), none⟩ :: []))
def k74_3 : ACode := (.cond (.t 32) (.seq (.region (⟨(some 4), (.p (.mv (.c (.int .i64 0)))), none⟩ :: ⟨(some 5), (.p (.mv (.c (.bool false)))), none⟩ :: [])) .ret) .skip)
def k74_4 : ACode := (.seq k74_2 k74_3)
def k74_5 : ACode := (.region (⟨(some 33), (.p (.mv (.t 8))), none⟩ :: ⟨(some 34), (.p (.mv (.t 11))), none⟩ :: ⟨(some 35), (.p (.bin .mul (.t 33) (.t 34))), none⟩ :: ⟨(some 36), (.p (.mv (.t 9))), none⟩ :: ⟨(some 37), (.p (.mv (.t 10))), none⟩ :: ⟨(some 38), (.p (.bin .mul (.t 36) (.t 37))), none⟩ :: ⟨(some 39), (.p (.bin .add (.t 35) (.t 38))), none⟩ :: ⟨(some 12), (.p (.mv (.t 39))), none⟩ :: []))
def k74_6 : ACode := (.cond (.t 41) (.seq (.region (⟨(some 4), (.p (.mv (.c (.int .i64 0)))), none⟩ :: ⟨(some 5), (.p (.mv (.c (.bool false)))), none⟩ :: [])) .ret) .skip)
def k74_7 : ACode := (.seq (.region (⟨(some 40), (.p (.mv (.t 12))), none⟩ :: ⟨(some 41), (.p (.bin .geq (.t 40) (.c (.int .u64 4294967296)))), none⟩ :: [])) k74_6)
def k74_8 : ACode := (.region (⟨(some 42), (.p (.mv (.t 9))), none⟩ :: ⟨(some 43), (.p (.mv (.t 11))), none⟩ :: ⟨(some 44), (.p (.bin .mul (.t 42) (.t 43))), none⟩ :: ⟨(some 13), (.p (.mv (.t 44))), none⟩ :: []))
def k74_9 : ACode := (.region (⟨(some 45), (.p (.mv (.t 12))), none⟩ :: ⟨(some 46), (.p (.bin .shl (.t 45) (.c (.int .u64 32)))), none⟩ :: ⟨(some 47), (.p (.mv (.t 13))), none⟩ :: ⟨(some 48), (.p (.bin .add (.t 46) (.t 47))), none⟩ :: ⟨(some 14), (.p (.mv (.t 48))), none⟩ :: []))
def k74_10 : ACode := (.region (⟨(some 49), (.p (.mv (.t 14))), none⟩ :: ⟨(some 50), (.p (.mv (.t 13))), none⟩ :: ⟨(some 51), (.p (.bin .lss (.t 49) (.t 50))), none⟩ :: ⟨(some 52), (.p (.mv (.t 51))), none⟩ :: ⟨(some 53), (.p (.mv (.t 14))), (some (52, false))⟩ :: ⟨(some 54), (.p (.bin .gtr (.t 53) (.c (.int .u64 9223372036854775808)))), (some (52, false))⟩ :: ⟨(some 55), (.p (.pick (.t 52) (.c (.bool true)) (.t 54))), none⟩ :: []))
def k74_11 : ACode := (.cond (.t 55) (.seq (.region (⟨(some 4), (.p (.mv (.c (.int .i64 0)))), none⟩ :: ⟨(some 5), (.p (.mv (.c (.bool false)))), none⟩ :: [])) .ret) .skip)
def k74_12 : ACode := (.seq k74_10 k74_11)
def k74_13 : ACode := (.region (⟨(some 56), (.p (.mv (.t 0))), none⟩ :: ⟨(some 57), (.p (.bin .lss (.t 56) (.c (.int .i64 0)))), none⟩ :: ⟨(some 58), (.p (.mv (.t 1))), none⟩ :: ⟨(some 59), (.p (.bin .lss (.t 58) (.c (.int .i64 0)))), none⟩ :: ⟨(some 60), (.p (.eqb true (.t 57) (.t 59))), none⟩ :: []))
def k74_14 : ACode := (.region (⟨(some 61), (.p (.mv (.t 14))), none⟩ :: ⟨(some 62), (.p (.bin .sub (.c (.int .u64 0)) (.t 61))), none⟩ :: ⟨(some 63), (.p (.conv .i64 (.t 62))), none⟩ :: ⟨(some 4), (.p (.mv (.t 63))), none⟩ :: ⟨(some 5), (.p (.mv (.c (.bool true)))), none⟩ :: []))
def k74_15 : ACode := (.seq k74_14 .ret)
def k74_16 : ACode := (.cond (.t 60) k74_15 .skip)
def k74_17 : ACode := (.seq k74_13 k74_16)
def k74_18 : ACode := (.region (⟨(some 64), (.p (.mv (.t 14))), none⟩ :: ⟨(some 65), (.p (.conv .i64 (.t 64))), none⟩ :: ⟨(some 66), (.p (.mv (.t 14))), none⟩ :: ⟨(some 67), (.p (.bin .lss (.t 66) (.c (.int .u64 9223372036854775808)))), none⟩ :: ⟨(some 4), (.p (.mv (.t 65))), none⟩ :: ⟨(some 5), (.p (.mv (.t 67))), none⟩ :: []))
def k74_19 : ACode := (.seq k74_18 .ret)
def k74_20 : ACode := (.seq k74_17 k74_19)
def k74_21 : ACode := (.seq k74_12 k74_20)
def k74_22 : ACode := (.seq k74_9 k74_21)
def k74_23 : ACode := (.seq k74_8 k74_22)
def k74_24 : ACode := (.seq k74_7 k74_23)
def k74_25 : ACode := (.seq k74_5 k74_24)
def k74_26 : ACode := (.seq k74_4 k74_25)
def k74_27 : ACode := (.seq k74_1 k74_26)
def k74_28 : ACode := (.seq k74_0 k74_27)
def cd74 : ACode := (.seq (.region (⟨(some 4), (.p (.mv (.c (.int .i64 0)))), none⟩ :: ⟨(some 5), (.p (.mv (.c (.bool false)))), none⟩ :: [])) k74_28)
def rs74 : List ARes := [(.tmp 4), (.tmp 5)]
def af74 : AFn := ⟨cd74, rs74, 68⟩
theorem c74 : compF Try.prog 74 = some af74 := by kernel_rfl
noncomputable def g_snaffleref01_Mul (p_a : Int) (p_b : Int) : Option (Int × Bool) := (Option.bind (g_snaffleref01_whole p_a) fun v1 => (Option.bind (g_snaffleref01_whole p_b) fun v2 => (bif ((decide ((Int.fdiv v1 4294967296) > 0)) && (decide ((Int.fdiv v2 4294967296) > 0))) then (some (0, false)) else (bif (decide ((IntKind.wrap .u64 ((IntKind.wrap .u64 ((Int.fdiv v1 4294967296) * (bits .and .u64 v2 4294967295))) + (IntKind.wrap .u64 ((bits .and .u64 v1 4294967295) * (Int.fdiv v2 4294967296))))) ≥ 4294967296)) then (some (0, false)) else (bif ((decide ((IntKind.wrap .u64 ((IntKind.wrap .u64 ((IntKind.wrap .u64 ((IntKind.wrap .u64 ((Int.fdiv v1 4294967296) * (bits .and .u64 v2 4294967295))) + (IntKind.wrap .u64 ((bits .and .u64 v1 4294967295) * (Int.fdiv v2 4294967296))))) * 4294967296)) + (IntKind.wrap .u64 ((bits .and .u64 v1 4294967295) * (bits .and .u64 v2 4294967295))))) < (IntKind.wrap .u64 ((bits .and .u64 v1 4294967295) * (bits .and .u64 v2 4294967295))))) || (decide ((IntKind.wrap .u64 ((IntKind.wrap .u64 ((IntKind.wrap .u64 ((IntKind.wrap .u64 ((Int.fdiv v1 4294967296) * (bits .and .u64 v2 4294967295))) + (IntKind.wrap .u64 ((bits .and .u64 v1 4294967295) * (Int.fdiv v2 4294967296))))) * 4294967296)) + (IntKind.wrap .u64 ((bits .and .u64 v1 4294967295) * (bits .and .u64 v2 4294967295))))) > 9223372036854775808))) then (some (0, false)) else (bif ((decide (p_a < 0)) != (decide (p_b < 0))) then (some ((IntKind.wrap .i64 (IntKind.wrap .u64 (0 - (IntKind.wrap .u64 ((IntKind.wrap .u64 ((IntKind.wrap .u64 ((IntKind.wrap .u64 ((Int.fdiv v1 4294967296) * (bits .and .u64 v2 4294967295))) + (IntKind.wrap .u64 ((bits .and .u64 v1 4294967295) * (Int.fdiv v2 4294967296))))) * 4294967296)) + (IntKind.wrap .u64 ((bits .and .u64 v1 4294967295) * (bits .and .u64 v2 4294967295)))))))), true)) else (some ((IntKind.wrap .i64 (IntKind.wrap .u64 ((IntKind.wrap .u64 ((IntKind.wrap .u64 ((IntKind.wrap .u64 ((Int.fdiv v1 4294967296) * (bits .and .u64 v2 4294967295))) + (IntKind.wrap .u64 ((bits .and .u64 v1 4294967295) * (Int.fdiv v2 4294967296))))) * 4294967296)) + (IntKind.wrap .u64 ((bits .and .u64 v1 4294967295) * (bits .and .u64 v2 4294967295)))))), (decide ((IntKind.wrap .u64 ((IntKind.wrap .u64 ((IntKind.wrap .u64 ((IntKind.wrap .u64 ((Int.fdiv v1 4294967296) * (bits .and .u64 v2 4294967295))) + (IntKind.wrap .u64 ((bits .and .u64 v1 4294967295) * (Int.fdiv v2 4294967296))))) * 4294967296)) + (IntKind.wrap .u64 ((bits .and .u64 v1 4294967295) * (bits .and .u64 v2 4294967295))))) < 9223372036854775808))))))))))
noncomputable def sp74 : List DV → Option DV := specT (fun (a : Int × Int) => [.int .i64 a.1, .int .i64 a.2]) (fun (r : (Int × Bool)) => .tup [.int .i64 r.1, .bool r.2]) (fun (a : Int × Int) => g_snaffleref01_Mul a.1 a.2)
theorem inj74 : ∀ (a b : Int × Int), List.map z1 ((fun (a : Int × Int) => [.int .i64 a.1, .int .i64 a.2]) a) = List.map z1 ((fun (a : Int × Int) => [.int .i64 a.1, .int .i64 a.2]) b) → a = b := by
 rintro ⟨a0, a1⟩ ⟨b0, b1⟩ h
 simp only [List.map_cons, List.map_nil, List.cons.injEq, and_true] at h
 obtain ⟨h0, h1⟩ := h
 exact (pair_eq (DV.int.inj h0).2 (DV.int.inj h1).2)
set_option maxHeartbeats 1000000 in
theorem w74 {C : FuncId → Con} (hC : ConOk Try.prog C) {q89 : List DV → Option DV} (hc89 : C 89 = .val q89) (hs89 : ∀ (x0 : Int) (ds : List DV), List.map z1 ds = List.map z1 [.int .i64 x0] → q89 ds = (g_snaffleref01_whole x0).map fun r => .int .u64 r) : ValOk Try.prog 74 sp74 := by
 refine valT_of hC c74 _ _ _ inj74 ?_
 rintro ⟨p_a, p_b⟩
 show Imq (g_snaffleref01_Mul p_a p_b) (fun _ => True) fun r => WP Try.prog C (fun _ => False) cd74 (retQ fun s => outV s rs74 = some (.tup [.int .i64 r.1, .bool r.2])) ⟨⟨68, [(0, (ii p_a)), (1, (ii p_b))]⟩, mkH []⟩
 unfold g_snaffleref01_Mul
 refine G_seq ?_
 refine G_region ?_
 refine G_op [0] (v := (ii 0)) (E_p (by kernel_rfl)) rfl rfl ?_
 refine G_op [0] (v := (bb false)) (E_p (by kernel_rfl)) rfl rfl ?_
 refine G_nil ?_
 refine G_then ?_
 refine G_seq ?_
 refine G_region ?_
 refine G_op [0] (v := (ii p_a)) (E_p (by kernel_rfl)) rfl rfl ?_
 refine q_bind fun v1 hv1 => ?_
 refine G_op [0] (v := (.val (.int .u64 v1))) (E_call (ds := [.int .i64 p_a]) (r := .int .u64 v1) hc89 (by kernel_rfl) ((hs89 p_a _ (by kernel_rfl)).trans (congrArg _ hv1))) rfl rfl ?_
 refine G_op [0] (v := (ii p_b)) (E_p (by kernel_rfl)) rfl rfl ?_
 refine q_bind fun v2 hv2 => ?_
 refine G_op [0] (v := (.val (.int .u64 v2))) (E_call (ds := [.int .i64 p_b]) (r := .int .u64 v2) hc89 (by kernel_rfl) ((hs89 p_b _ (by kernel_rfl)).trans (congrArg _ hv2))) rfl rfl ?_
 refine G_op [0] (v := (.val (.int .u64 v1))) (E_p (by kernel_rfl)) rfl rfl ?_
 refine G_op [0] (v := (.val (.int .u64 v2))) (E_p (by kernel_rfl)) rfl rfl ?_
 refine G_nil ?_
 refine G_then ?_
 refine G_seq ?_
 refine G_region ?_
 refine G_op [0] (v := (.val (.int .u64 v1))) (E_p (by kernel_rfl)) rfl rfl ?_
 refine G_op [0] (v := (.val (.int .u64 (Int.fdiv v1 4294967296)))) (E_p (by kernel_rfl)) rfl rfl ?_
 refine G_op [0] (v := (.val (.int .u64 v1))) (E_p (by kernel_rfl)) rfl rfl ?_
 refine G_op [0] (v := (.val (.int .u64 (bits .and .u64 v1 4294967295)))) (E_p (by kernel_rfl)) rfl rfl ?_
 refine G_op [0] (v := (.val (.int .u64 v2))) (E_p (by kernel_rfl)) rfl rfl ?_
 refine G_op [0] (v := (.val (.int .u64 (Int.fdiv v2 4294967296)))) (E_p (by kernel_rfl)) rfl rfl ?_
 refine G_op [0] (v := (.val (.int .u64 v2))) (E_p (by kernel_rfl)) rfl rfl ?_
 refine G_op [0] (v := (.val (.int .u64 (bits .and .u64 v2 4294967295)))) (E_p (by kernel_rfl)) rfl rfl ?_
 refine G_op [0] (v := (.val (.int .u64 (Int.fdiv v1 4294967296)))) (E_p (by kernel_rfl)) rfl rfl ?_
 refine G_op [0] (v := (.val (.int .u64 (bits .and .u64 v1 4294967295)))) (E_p (by kernel_rfl)) rfl rfl ?_
 refine G_op [0] (v := (.val (.int .u64 (Int.fdiv v2 4294967296)))) (E_p (by kernel_rfl)) rfl rfl ?_
 refine G_op [0] (v := (.val (.int .u64 (bits .and .u64 v2 4294967295)))) (E_p (by kernel_rfl)) rfl rfl ?_
 refine G_nil ?_
 refine G_then ?_
 refine G_subW (s0 := ⟨⟨68, [(11, (.val (.int .u64 (bits .and .u64 v2 4294967295)))), (10, (.val (.int .u64 (Int.fdiv v2 4294967296)))), (9, (.val (.int .u64 (bits .and .u64 v1 4294967295)))), (8, (.val (.int .u64 (Int.fdiv v1 4294967296)))), (5, (bb false)), (4, (ii 0)), (0, (ii p_a)), (1, (ii p_b))]⟩, mkH []⟩) (by exact Sub_env ⟨.refl _, .refl _, .refl _, .refl _, .refl _, .refl _, .refl _, .refl _, trivial⟩) ?_
 refine G_seq ?_
 refine G_seq ?_
 refine G_region ?_
 refine G_op [0] (v := (.val (.int .u64 (Int.fdiv v1 4294967296)))) (E_p (by kernel_rfl)) rfl rfl ?_
 refine G_op [0] (v := (bb ((decide ((Int.fdiv v1 4294967296) > 0))))) (E_p (by kernel_rfl)) rfl rfl ?_
 refine G_op [0] (v := (bb ((decide ((Int.fdiv v1 4294967296) > 0))))) (E_p (by kernel_rfl)) rfl rfl ?_
 refine G_pure (l := []) (st := ⟨⟨68, [(32, (bb (((decide ((Int.fdiv v1 4294967296) > 0)) && (decide ((Int.fdiv v2 4294967296) > 0)))))), (11, (.val (.int .u64 (bits .and .u64 v2 4294967295)))), (10, (.val (.int .u64 (Int.fdiv v2 4294967296)))), (9, (.val (.int .u64 (bits .and .u64 v1 4294967295)))), (8, (.val (.int .u64 (Int.fdiv v1 4294967296)))), (5, (bb false)), (4, (ii 0)), (0, (ii p_a)), (1, (ii p_b))]⟩, mkH []⟩) ?_ (fun r5 => ?_)
 ·refine G_nil ?_
  refine G_then ?_
  refine G_cond (t := ((decide ((Int.fdiv v1 4294967296) > 0)) && (decide ((Int.fdiv v2 4294967296) > 0)))) (by kernel_rfl) (fun _ => ?_) (fun _ => ?_)
  ·refine G_seq ?_
   refine G_region ?_
   refine G_op [0] (v := (ii 0)) (E_p (by kernel_rfl)) rfl rfl ?_
   refine G_op [0] (v := (bb false)) (E_p (by kernel_rfl)) rfl rfl ?_
   refine G_nil ?_
   refine G_then ?_
   refine G_ret ?_
   refine G_thenR ?_
   refine G_retR ?_
   refine q_some fun hA => ?_
   show outV _ _ = some _
   kernel_rfl
  ·refine G_skip ?_
   refine G_then ?_
   refine G_seq ?_
   refine G_region ?_
   refine G_op [0] (v := (.val (.int .u64 (Int.fdiv v1 4294967296)))) (E_p (by kernel_rfl)) rfl rfl ?_
   refine G_op [0] (v := (.val (.int .u64 (bits .and .u64 v2 4294967295)))) (E_p (by kernel_rfl)) rfl rfl ?_
   refine G_op [0] (v := (.val (.int .u64 (IntKind.wrap .u64 ((Int.fdiv v1 4294967296) * (bits .and .u64 v2 4294967295)))))) (E_p (by kernel_rfl)) rfl rfl ?_
   refine G_op [0] (v := (.val (.int .u64 (bits .and .u64 v1 4294967295)))) (E_p (by kernel_rfl)) rfl rfl ?_
   refine G_op [0] (v := (.val (.int .u64 (Int.fdiv v2 4294967296)))) (E_p (by kernel_rfl)) rfl rfl ?_
   refine G_op [0] (v := (.val (.int .u64 (IntKind.wrap .u64 ((bits .and .u64 v1 4294967295) * (Int.fdiv v2 4294967296)))))) (E_p (by kernel_rfl)) rfl rfl ?_
   refine G_op [0] (v := (.val (.int .u64 (IntKind.wrap .u64 ((IntKind.wrap .u64 ((Int.fdiv v1 4294967296) * (bits .and .u64 v2 4294967295))) + (IntKind.wrap .u64 ((bits .and .u64 v1 4294967295) * (Int.fdiv v2 4294967296)))))))) (E_p (by kernel_rfl)) rfl rfl ?_
   refine G_op [0] (v := (.val (.int .u64 (IntKind.wrap .u64 ((IntKind.wrap .u64 ((Int.fdiv v1 4294967296) * (bits .and .u64 v2 4294967295))) + (IntKind.wrap .u64 ((bits .and .u64 v1 4294967295) * (Int.fdiv v2 4294967296)))))))) (E_p (by kernel_rfl)) rfl rfl ?_
   refine G_nil ?_
   refine G_then ?_
   refine G_subW (s0 := ⟨⟨68, [(12, (.val (.int .u64 (IntKind.wrap .u64 ((IntKind.wrap .u64 ((Int.fdiv v1 4294967296) * (bits .and .u64 v2 4294967295))) + (IntKind.wrap .u64 ((bits .and .u64 v1 4294967295) * (Int.fdiv v2 4294967296)))))))), (11, (.val (.int .u64 (bits .and .u64 v2 4294967295)))), (9, (.val (.int .u64 (bits .and .u64 v1 4294967295)))), (5, (bb false)), (4, (ii 0)), (0, (ii p_a)), (1, (ii p_b))]⟩, mkH []⟩) (by exact Sub_env ⟨.refl _, .refl _, .refl _, .refl _, .refl _, .refl _, .refl _, trivial⟩) ?_
   refine G_seq ?_
   refine G_seq ?_
   refine G_region ?_
   refine G_op [0] (v := (.val (.int .u64 (IntKind.wrap .u64 ((IntKind.wrap .u64 ((Int.fdiv v1 4294967296) * (bits .and .u64 v2 4294967295))) + (IntKind.wrap .u64 ((bits .and .u64 v1 4294967295) * (Int.fdiv v2 4294967296)))))))) (E_p (by kernel_rfl)) rfl rfl ?_
   refine G_op [0] (v := (bb ((decide ((IntKind.wrap .u64 ((IntKind.wrap .u64 ((Int.fdiv v1 4294967296) * (bits .and .u64 v2 4294967295))) + (IntKind.wrap .u64 ((bits .and .u64 v1 4294967295) * (Int.fdiv v2 4294967296))))) ≥ 4294967296))))) (E_p (by kernel_rfl)) rfl rfl ?_
   refine G_nil ?_
   refine G_then ?_
   refine G_cond (t := (decide ((IntKind.wrap .u64 ((IntKind.wrap .u64 ((Int.fdiv v1 4294967296) * (bits .and .u64 v2 4294967295))) + (IntKind.wrap .u64 ((bits .and .u64 v1 4294967295) * (Int.fdiv v2 4294967296))))) ≥ 4294967296))) (by kernel_rfl) (fun _ => ?_) (fun _ => ?_)
   ·refine G_seq ?_
    refine G_region ?_
    refine G_op [0] (v := (ii 0)) (E_p (by kernel_rfl)) rfl rfl ?_
    refine G_op [0] (v := (bb false)) (E_p (by kernel_rfl)) rfl rfl ?_
    refine G_nil ?_
    refine G_then ?_
    refine G_ret ?_
    refine G_thenR ?_
    refine G_retR ?_
    refine q_some fun hA => ?_
    show outV _ _ = some _
    kernel_rfl
   ·refine G_skip ?_
    refine G_then ?_
    refine G_seq ?_
    refine G_region ?_
    refine G_op [0] (v := (.val (.int .u64 (bits .and .u64 v1 4294967295)))) (E_p (by kernel_rfl)) rfl rfl ?_
    refine G_op [0] (v := (.val (.int .u64 (bits .and .u64 v2 4294967295)))) (E_p (by kernel_rfl)) rfl rfl ?_
    refine G_op [0] (v := (.val (.int .u64 (IntKind.wrap .u64 ((bits .and .u64 v1 4294967295) * (bits .and .u64 v2 4294967295)))))) (E_p (by kernel_rfl)) rfl rfl ?_
    refine G_op [0] (v := (.val (.int .u64 (IntKind.wrap .u64 ((bits .and .u64 v1 4294967295) * (bits .and .u64 v2 4294967295)))))) (E_p (by kernel_rfl)) rfl rfl ?_
    refine G_nil ?_
    refine G_then ?_
    refine G_seq ?_
    refine G_region ?_
    refine G_op [0] (v := (.val (.int .u64 (IntKind.wrap .u64 ((IntKind.wrap .u64 ((Int.fdiv v1 4294967296) * (bits .and .u64 v2 4294967295))) + (IntKind.wrap .u64 ((bits .and .u64 v1 4294967295) * (Int.fdiv v2 4294967296)))))))) (E_p (by kernel_rfl)) rfl rfl ?_
    refine G_op [0] (v := (.val (.int .u64 (IntKind.wrap .u64 ((IntKind.wrap .u64 ((IntKind.wrap .u64 ((Int.fdiv v1 4294967296) * (bits .and .u64 v2 4294967295))) + (IntKind.wrap .u64 ((bits .and .u64 v1 4294967295) * (Int.fdiv v2 4294967296))))) * 4294967296))))) (E_p (by kernel_rfl)) rfl rfl ?_
    refine G_op [0] (v := (.val (.int .u64 (IntKind.wrap .u64 ((bits .and .u64 v1 4294967295) * (bits .and .u64 v2 4294967295)))))) (E_p (by kernel_rfl)) rfl rfl ?_
    refine G_op [0] (v := (.val (.int .u64 (IntKind.wrap .u64 ((IntKind.wrap .u64 ((IntKind.wrap .u64 ((IntKind.wrap .u64 ((Int.fdiv v1 4294967296) * (bits .and .u64 v2 4294967295))) + (IntKind.wrap .u64 ((bits .and .u64 v1 4294967295) * (Int.fdiv v2 4294967296))))) * 4294967296)) + (IntKind.wrap .u64 ((bits .and .u64 v1 4294967295) * (bits .and .u64 v2 4294967295)))))))) (E_p (by kernel_rfl)) rfl rfl ?_
    refine G_op [0] (v := (.val (.int .u64 (IntKind.wrap .u64 ((IntKind.wrap .u64 ((IntKind.wrap .u64 ((IntKind.wrap .u64 ((Int.fdiv v1 4294967296) * (bits .and .u64 v2 4294967295))) + (IntKind.wrap .u64 ((bits .and .u64 v1 4294967295) * (Int.fdiv v2 4294967296))))) * 4294967296)) + (IntKind.wrap .u64 ((bits .and .u64 v1 4294967295) * (bits .and .u64 v2 4294967295)))))))) (E_p (by kernel_rfl)) rfl rfl ?_
    refine G_nil ?_
    refine G_then ?_
    refine G_subW (s0 := ⟨⟨68, [(14, (.val (.int .u64 (IntKind.wrap .u64 ((IntKind.wrap .u64 ((IntKind.wrap .u64 ((IntKind.wrap .u64 ((Int.fdiv v1 4294967296) * (bits .and .u64 v2 4294967295))) + (IntKind.wrap .u64 ((bits .and .u64 v1 4294967295) * (Int.fdiv v2 4294967296))))) * 4294967296)) + (IntKind.wrap .u64 ((bits .and .u64 v1 4294967295) * (bits .and .u64 v2 4294967295)))))))), (13, (.val (.int .u64 (IntKind.wrap .u64 ((bits .and .u64 v1 4294967295) * (bits .and .u64 v2 4294967295)))))), (5, (bb false)), (4, (ii 0)), (0, (ii p_a)), (1, (ii p_b))]⟩, mkH []⟩) (by exact Sub_env ⟨.refl _, .refl _, .refl _, .refl _, .refl _, .refl _, trivial⟩) ?_
    refine G_seq ?_
    refine G_seq ?_
    refine G_region ?_
    refine G_op [0] (v := (.val (.int .u64 (IntKind.wrap .u64 ((IntKind.wrap .u64 ((IntKind.wrap .u64 ((IntKind.wrap .u64 ((Int.fdiv v1 4294967296) * (bits .and .u64 v2 4294967295))) + (IntKind.wrap .u64 ((bits .and .u64 v1 4294967295) * (Int.fdiv v2 4294967296))))) * 4294967296)) + (IntKind.wrap .u64 ((bits .and .u64 v1 4294967295) * (bits .and .u64 v2 4294967295)))))))) (E_p (by kernel_rfl)) rfl rfl ?_
    refine G_op [0] (v := (.val (.int .u64 (IntKind.wrap .u64 ((bits .and .u64 v1 4294967295) * (bits .and .u64 v2 4294967295)))))) (E_p (by kernel_rfl)) rfl rfl ?_
    refine G_op [0] (v := (bb ((decide ((IntKind.wrap .u64 ((IntKind.wrap .u64 ((IntKind.wrap .u64 ((IntKind.wrap .u64 ((Int.fdiv v1 4294967296) * (bits .and .u64 v2 4294967295))) + (IntKind.wrap .u64 ((bits .and .u64 v1 4294967295) * (Int.fdiv v2 4294967296))))) * 4294967296)) + (IntKind.wrap .u64 ((bits .and .u64 v1 4294967295) * (bits .and .u64 v2 4294967295))))) < (IntKind.wrap .u64 ((bits .and .u64 v1 4294967295) * (bits .and .u64 v2 4294967295)))))))) (E_p (by kernel_rfl)) rfl rfl ?_
    refine G_op [0] (v := (bb ((decide ((IntKind.wrap .u64 ((IntKind.wrap .u64 ((IntKind.wrap .u64 ((IntKind.wrap .u64 ((Int.fdiv v1 4294967296) * (bits .and .u64 v2 4294967295))) + (IntKind.wrap .u64 ((bits .and .u64 v1 4294967295) * (Int.fdiv v2 4294967296))))) * 4294967296)) + (IntKind.wrap .u64 ((bits .and .u64 v1 4294967295) * (bits .and .u64 v2 4294967295))))) < (IntKind.wrap .u64 ((bits .and .u64 v1 4294967295) * (bits .and .u64 v2 4294967295)))))))) (E_p (by kernel_rfl)) rfl rfl ?_
    refine G_pure (l := []) (st := ⟨⟨68, [(55, (bb (((decide ((IntKind.wrap .u64 ((IntKind.wrap .u64 ((IntKind.wrap .u64 ((IntKind.wrap .u64 ((Int.fdiv v1 4294967296) * (bits .and .u64 v2 4294967295))) + (IntKind.wrap .u64 ((bits .and .u64 v1 4294967295) * (Int.fdiv v2 4294967296))))) * 4294967296)) + (IntKind.wrap .u64 ((bits .and .u64 v1 4294967295) * (bits .and .u64 v2 4294967295))))) < (IntKind.wrap .u64 ((bits .and .u64 v1 4294967295) * (bits .and .u64 v2 4294967295))))) || (decide ((IntKind.wrap .u64 ((IntKind.wrap .u64 ((IntKind.wrap .u64 ((IntKind.wrap .u64 ((Int.fdiv v1 4294967296) * (bits .and .u64 v2 4294967295))) + (IntKind.wrap .u64 ((bits .and .u64 v1 4294967295) * (Int.fdiv v2 4294967296))))) * 4294967296)) + (IntKind.wrap .u64 ((bits .and .u64 v1 4294967295) * (bits .and .u64 v2 4294967295))))) > 9223372036854775808)))))), (14, (.val (.int .u64 (IntKind.wrap .u64 ((IntKind.wrap .u64 ((IntKind.wrap .u64 ((IntKind.wrap .u64 ((Int.fdiv v1 4294967296) * (bits .and .u64 v2 4294967295))) + (IntKind.wrap .u64 ((bits .and .u64 v1 4294967295) * (Int.fdiv v2 4294967296))))) * 4294967296)) + (IntKind.wrap .u64 ((bits .and .u64 v1 4294967295) * (bits .and .u64 v2 4294967295)))))))), (5, (bb false)), (4, (ii 0)), (0, (ii p_a)), (1, (ii p_b))]⟩, mkH []⟩) ?_ (fun r8 => ?_)
    ·refine G_nil ?_
     refine G_then ?_
     refine G_cond (t := ((decide ((IntKind.wrap .u64 ((IntKind.wrap .u64 ((IntKind.wrap .u64 ((IntKind.wrap .u64 ((Int.fdiv v1 4294967296) * (bits .and .u64 v2 4294967295))) + (IntKind.wrap .u64 ((bits .and .u64 v1 4294967295) * (Int.fdiv v2 4294967296))))) * 4294967296)) + (IntKind.wrap .u64 ((bits .and .u64 v1 4294967295) * (bits .and .u64 v2 4294967295))))) < (IntKind.wrap .u64 ((bits .and .u64 v1 4294967295) * (bits .and .u64 v2 4294967295))))) || (decide ((IntKind.wrap .u64 ((IntKind.wrap .u64 ((IntKind.wrap .u64 ((IntKind.wrap .u64 ((Int.fdiv v1 4294967296) * (bits .and .u64 v2 4294967295))) + (IntKind.wrap .u64 ((bits .and .u64 v1 4294967295) * (Int.fdiv v2 4294967296))))) * 4294967296)) + (IntKind.wrap .u64 ((bits .and .u64 v1 4294967295) * (bits .and .u64 v2 4294967295))))) > 9223372036854775808)))) (by kernel_rfl) (fun _ => ?_) (fun _ => ?_)
     ·refine G_seq ?_
      refine G_region ?_
      refine G_op [0] (v := (ii 0)) (E_p (by kernel_rfl)) rfl rfl ?_
      refine G_op [0] (v := (bb false)) (E_p (by kernel_rfl)) rfl rfl ?_
      refine G_nil ?_
      refine G_then ?_
      refine G_ret ?_
      refine G_thenR ?_
      refine G_retR ?_
      refine q_some fun hA => ?_
      show outV _ _ = some _
      kernel_rfl
     ·refine G_skip ?_
      refine G_then ?_
      refine G_seq ?_
      refine G_seq ?_
      refine G_region ?_
      refine G_op [0] (v := (ii p_a)) (E_p (by kernel_rfl)) rfl rfl ?_
      refine G_op [0] (v := (bb ((decide (p_a < 0))))) (E_p (by kernel_rfl)) rfl rfl ?_
      refine G_op [0] (v := (ii p_b)) (E_p (by kernel_rfl)) rfl rfl ?_
      refine G_op [0] (v := (bb ((decide (p_b < 0))))) (E_p (by kernel_rfl)) rfl rfl ?_
      refine G_op [0] (v := (bb (((decide (p_a < 0)) != (decide (p_b < 0)))))) (E_p (by kernel_rfl)) rfl rfl ?_
      refine G_nil ?_
      refine G_then ?_
      refine G_cond (t := ((decide (p_a < 0)) != (decide (p_b < 0)))) (by kernel_rfl) (fun _ => ?_) (fun _ => ?_)
      ·refine G_seq ?_
       refine G_region ?_
       refine G_op [0] (v := (.val (.int .u64 (IntKind.wrap .u64 ((IntKind.wrap .u64 ((IntKind.wrap .u64 ((IntKind.wrap .u64 ((Int.fdiv v1 4294967296) * (bits .and .u64 v2 4294967295))) + (IntKind.wrap .u64 ((bits .and .u64 v1 4294967295) * (Int.fdiv v2 4294967296))))) * 4294967296)) + (IntKind.wrap .u64 ((bits .and .u64 v1 4294967295) * (bits .and .u64 v2 4294967295)))))))) (E_p (by kernel_rfl)) rfl rfl ?_
       refine G_op [0] (v := (.val (.int .u64 (IntKind.wrap .u64 (0 - (IntKind.wrap .u64 ((IntKind.wrap .u64 ((IntKind.wrap .u64 ((IntKind.wrap .u64 ((Int.fdiv v1 4294967296) * (bits .and .u64 v2 4294967295))) + (IntKind.wrap .u64 ((bits .and .u64 v1 4294967295) * (Int.fdiv v2 4294967296))))) * 4294967296)) + (IntKind.wrap .u64 ((bits .and .u64 v1 4294967295) * (bits .and .u64 v2 4294967295)))))))))) (E_p (by kernel_rfl)) rfl rfl ?_
       refine G_op [0] (v := (ii ((IntKind.wrap .i64 (IntKind.wrap .u64 (0 - (IntKind.wrap .u64 ((IntKind.wrap .u64 ((IntKind.wrap .u64 ((IntKind.wrap .u64 ((Int.fdiv v1 4294967296) * (bits .and .u64 v2 4294967295))) + (IntKind.wrap .u64 ((bits .and .u64 v1 4294967295) * (Int.fdiv v2 4294967296))))) * 4294967296)) + (IntKind.wrap .u64 ((bits .and .u64 v1 4294967295) * (bits .and .u64 v2 4294967295))))))))))) (E_p (by kernel_rfl)) rfl rfl ?_
       refine G_op [0] (v := (ii ((IntKind.wrap .i64 (IntKind.wrap .u64 (0 - (IntKind.wrap .u64 ((IntKind.wrap .u64 ((IntKind.wrap .u64 ((IntKind.wrap .u64 ((Int.fdiv v1 4294967296) * (bits .and .u64 v2 4294967295))) + (IntKind.wrap .u64 ((bits .and .u64 v1 4294967295) * (Int.fdiv v2 4294967296))))) * 4294967296)) + (IntKind.wrap .u64 ((bits .and .u64 v1 4294967295) * (bits .and .u64 v2 4294967295))))))))))) (E_p (by kernel_rfl)) rfl rfl ?_
       refine G_op [0] (v := (bb true)) (E_p (by kernel_rfl)) rfl rfl ?_
       refine G_nil ?_
       refine G_then ?_
       refine G_subW (s0 := ⟨⟨68, [(5, (bb true)), (4, (ii ((IntKind.wrap .i64 (IntKind.wrap .u64 (0 - (IntKind.wrap .u64 ((IntKind.wrap .u64 ((IntKind.wrap .u64 ((IntKind.wrap .u64 ((Int.fdiv v1 4294967296) * (bits .and .u64 v2 4294967295))) + (IntKind.wrap .u64 ((bits .and .u64 v1 4294967295) * (Int.fdiv v2 4294967296))))) * 4294967296)) + (IntKind.wrap .u64 ((bits .and .u64 v1 4294967295) * (bits .and .u64 v2 4294967295))))))))))), (14, (.val (.int .u64 (IntKind.wrap .u64 ((IntKind.wrap .u64 ((IntKind.wrap .u64 ((IntKind.wrap .u64 ((Int.fdiv v1 4294967296) * (bits .and .u64 v2 4294967295))) + (IntKind.wrap .u64 ((bits .and .u64 v1 4294967295) * (Int.fdiv v2 4294967296))))) * 4294967296)) + (IntKind.wrap .u64 ((bits .and .u64 v1 4294967295) * (bits .and .u64 v2 4294967295))))))))]⟩, mkH []⟩) (by exact Sub_env ⟨.refl _, .refl _, .refl _, trivial⟩) ?_
       refine G_ret ?_
       refine G_thenR ?_
       refine G_retR ?_
       refine q_some fun hA => ?_
       show outV _ _ = some _
       kernel_rfl
      ·refine G_skip ?_
       refine G_then ?_
       refine G_seq ?_
       refine G_region ?_
       refine G_op [0] (v := (.val (.int .u64 (IntKind.wrap .u64 ((IntKind.wrap .u64 ((IntKind.wrap .u64 ((IntKind.wrap .u64 ((Int.fdiv v1 4294967296) * (bits .and .u64 v2 4294967295))) + (IntKind.wrap .u64 ((bits .and .u64 v1 4294967295) * (Int.fdiv v2 4294967296))))) * 4294967296)) + (IntKind.wrap .u64 ((bits .and .u64 v1 4294967295) * (bits .and .u64 v2 4294967295)))))))) (E_p (by kernel_rfl)) rfl rfl ?_
       refine G_op [0] (v := (ii ((IntKind.wrap .i64 (IntKind.wrap .u64 ((IntKind.wrap .u64 ((IntKind.wrap .u64 ((IntKind.wrap .u64 ((Int.fdiv v1 4294967296) * (bits .and .u64 v2 4294967295))) + (IntKind.wrap .u64 ((bits .and .u64 v1 4294967295) * (Int.fdiv v2 4294967296))))) * 4294967296)) + (IntKind.wrap .u64 ((bits .and .u64 v1 4294967295) * (bits .and .u64 v2 4294967295))))))))) (E_p (by kernel_rfl)) rfl rfl ?_
       refine G_op [0] (v := (.val (.int .u64 (IntKind.wrap .u64 ((IntKind.wrap .u64 ((IntKind.wrap .u64 ((IntKind.wrap .u64 ((Int.fdiv v1 4294967296) * (bits .and .u64 v2 4294967295))) + (IntKind.wrap .u64 ((bits .and .u64 v1 4294967295) * (Int.fdiv v2 4294967296))))) * 4294967296)) + (IntKind.wrap .u64 ((bits .and .u64 v1 4294967295) * (bits .and .u64 v2 4294967295)))))))) (E_p (by kernel_rfl)) rfl rfl ?_
       refine G_op [0] (v := (bb ((decide ((IntKind.wrap .u64 ((IntKind.wrap .u64 ((IntKind.wrap .u64 ((IntKind.wrap .u64 ((Int.fdiv v1 4294967296) * (bits .and .u64 v2 4294967295))) + (IntKind.wrap .u64 ((bits .and .u64 v1 4294967295) * (Int.fdiv v2 4294967296))))) * 4294967296)) + (IntKind.wrap .u64 ((bits .and .u64 v1 4294967295) * (bits .and .u64 v2 4294967295))))) < 9223372036854775808))))) (E_p (by kernel_rfl)) rfl rfl ?_
       refine G_op [0] (v := (ii ((IntKind.wrap .i64 (IntKind.wrap .u64 ((IntKind.wrap .u64 ((IntKind.wrap .u64 ((IntKind.wrap .u64 ((Int.fdiv v1 4294967296) * (bits .and .u64 v2 4294967295))) + (IntKind.wrap .u64 ((bits .and .u64 v1 4294967295) * (Int.fdiv v2 4294967296))))) * 4294967296)) + (IntKind.wrap .u64 ((bits .and .u64 v1 4294967295) * (bits .and .u64 v2 4294967295))))))))) (E_p (by kernel_rfl)) rfl rfl ?_
       refine G_op [0] (v := (bb ((decide ((IntKind.wrap .u64 ((IntKind.wrap .u64 ((IntKind.wrap .u64 ((IntKind.wrap .u64 ((Int.fdiv v1 4294967296) * (bits .and .u64 v2 4294967295))) + (IntKind.wrap .u64 ((bits .and .u64 v1 4294967295) * (Int.fdiv v2 4294967296))))) * 4294967296)) + (IntKind.wrap .u64 ((bits .and .u64 v1 4294967295) * (bits .and .u64 v2 4294967295))))) < 9223372036854775808))))) (E_p (by kernel_rfl)) rfl rfl ?_
       refine G_nil ?_
       refine G_then ?_
       refine G_subW (s0 := ⟨⟨68, [(5, (bb ((decide ((IntKind.wrap .u64 ((IntKind.wrap .u64 ((IntKind.wrap .u64 ((IntKind.wrap .u64 ((Int.fdiv v1 4294967296) * (bits .and .u64 v2 4294967295))) + (IntKind.wrap .u64 ((bits .and .u64 v1 4294967295) * (Int.fdiv v2 4294967296))))) * 4294967296)) + (IntKind.wrap .u64 ((bits .and .u64 v1 4294967295) * (bits .and .u64 v2 4294967295))))) < 9223372036854775808))))), (4, (ii ((IntKind.wrap .i64 (IntKind.wrap .u64 ((IntKind.wrap .u64 ((IntKind.wrap .u64 ((IntKind.wrap .u64 ((Int.fdiv v1 4294967296) * (bits .and .u64 v2 4294967295))) + (IntKind.wrap .u64 ((bits .and .u64 v1 4294967295) * (Int.fdiv v2 4294967296))))) * 4294967296)) + (IntKind.wrap .u64 ((bits .and .u64 v1 4294967295) * (bits .and .u64 v2 4294967295)))))))))]⟩, mkH []⟩) (by exact Sub_env ⟨.refl _, .refl _, trivial⟩) ?_
       refine G_ret ?_
       refine G_retR ?_
       refine q_some fun hA => ?_
       show outV _ _ = some _
       kernel_rfl
    ·refine q_two (decide ((IntKind.wrap .u64 ((IntKind.wrap .u64 ((IntKind.wrap .u64 ((IntKind.wrap .u64 ((Int.fdiv v1 4294967296) * (bits .and .u64 v2 4294967295))) + (IntKind.wrap .u64 ((bits .and .u64 v1 4294967295) * (Int.fdiv v2 4294967296))))) * 4294967296)) + (IntKind.wrap .u64 ((bits .and .u64 v1 4294967295) * (bits .and .u64 v2 4294967295))))) < (IntKind.wrap .u64 ((bits .and .u64 v1 4294967295) * (bits .and .u64 v2 4294967295))))) (fun h6 => ?_) (fun h6 => ?_)
     ·refine G_subR (Sub_lit (t := 52) (v := true) rfl h6) ?_
      refine G_off rfl rfl ?_
      refine G_off rfl rfl ?_
      refine G_op [0] (v := (bb true)) (E_p (by kernel_rfl)) rfl rfl ?_
      exact q_some fun h => RP_sub (by exact Sub_env ⟨(Wk_or1 h6), .refl _, .refl _, .refl _, .refl _, .refl _, trivial⟩) h
     ·refine G_subR (Sub_lit (t := 52) (v := false) rfl h6) ?_
      refine G_op [0] (v := (.val (.int .u64 (IntKind.wrap .u64 ((IntKind.wrap .u64 ((IntKind.wrap .u64 ((IntKind.wrap .u64 ((Int.fdiv v1 4294967296) * (bits .and .u64 v2 4294967295))) + (IntKind.wrap .u64 ((bits .and .u64 v1 4294967295) * (Int.fdiv v2 4294967296))))) * 4294967296)) + (IntKind.wrap .u64 ((bits .and .u64 v1 4294967295) * (bits .and .u64 v2 4294967295)))))))) (E_p (by kernel_rfl)) rfl rfl ?_
      refine G_op [0] (v := (bb ((decide ((IntKind.wrap .u64 ((IntKind.wrap .u64 ((IntKind.wrap .u64 ((IntKind.wrap .u64 ((Int.fdiv v1 4294967296) * (bits .and .u64 v2 4294967295))) + (IntKind.wrap .u64 ((bits .and .u64 v1 4294967295) * (Int.fdiv v2 4294967296))))) * 4294967296)) + (IntKind.wrap .u64 ((bits .and .u64 v1 4294967295) * (bits .and .u64 v2 4294967295))))) > 9223372036854775808))))) (E_p (by kernel_rfl)) rfl rfl ?_
      refine G_op [0] (v := (bb ((decide ((IntKind.wrap .u64 ((IntKind.wrap .u64 ((IntKind.wrap .u64 ((IntKind.wrap .u64 ((Int.fdiv v1 4294967296) * (bits .and .u64 v2 4294967295))) + (IntKind.wrap .u64 ((bits .and .u64 v1 4294967295) * (Int.fdiv v2 4294967296))))) * 4294967296)) + (IntKind.wrap .u64 ((bits .and .u64 v1 4294967295) * (bits .and .u64 v2 4294967295))))) > 9223372036854775808))))) (E_p (by kernel_rfl)) rfl rfl ?_
      exact q_some fun h => RP_sub (by exact Sub_env ⟨(Wk_or0 h6), .refl _, .refl _, .refl _, .refl _, .refl _, trivial⟩) h
 ·refine q_two (decide ((Int.fdiv v1 4294967296) > 0)) (fun h3 => ?_) (fun h3 => ?_)
  ·refine G_subR (Sub_lit (t := 29) (v := true) rfl h3) ?_
   refine G_op [0] (v := (.val (.int .u64 (Int.fdiv v2 4294967296)))) (E_p (by kernel_rfl)) rfl rfl ?_
   refine G_op [0] (v := (bb ((decide ((Int.fdiv v2 4294967296) > 0))))) (E_p (by kernel_rfl)) rfl rfl ?_
   refine G_op [0] (v := (bb ((decide ((Int.fdiv v2 4294967296) > 0))))) (E_p (by kernel_rfl)) rfl rfl ?_
   exact q_some fun h => RP_sub (by exact Sub_env ⟨(Wk_and1 h3), .refl _, .refl _, .refl _, .refl _, .refl _, .refl _, .refl _, .refl _, trivial⟩) h
  ·refine G_subR (Sub_lit (t := 29) (v := false) rfl h3) ?_
   refine G_off rfl rfl ?_
   refine G_off rfl rfl ?_
   refine G_op [0] (v := (bb false)) (E_p (by kernel_rfl)) rfl rfl ?_
   exact q_some fun h => RP_sub (by exact Sub_env ⟨(Wk_and0 h3), .refl _, .refl _, .refl _, .refl _, .refl _, .refl _, .refl _, .refl _, trivial⟩) h
theorem s74 (x0 : Int) (x1 : Int) (ds : List DV) (hd : List.map z1 ds = List.map z1 [.int .i64 x0, .int .i64 x1]) : sp74 ds = (g_snaffleref01_Mul x0 x1).map fun r => .tup [.int .i64 r.1, .bool r.2] :=
 specT_at (ea := fun (a : Int × Int) => [.int .i64 a.1, .int .i64 a.2]) (eb := fun (r : (Int × Bool)) => .tup [.int .i64 r.1, .bool r.2]) (g := fun (a : Int × Int) => g_snaffleref01_Mul a.1 a.2) inj74 (x0, x1) hd

def k50_0 : ACode := (.cond (.t 10) (.seq (.region (⟨(some 2), (.p (.mv (.c (.int .i64 0)))), none⟩ :: ⟨(some 3), (.p (.mv (.c (.int .i64 1)))), none⟩ :: [])) .ret) .skip)
def k50_1 : ACode := (.seq (.region (⟨(some 8), (.r (.load 12 true (.t 1))), none⟩ :: ⟨(some 9), (.r (.call 42 [(.t 8)])), none⟩ :: ⟨(some 10), (.p (.un .not (.t 9))), none⟩ :: [])) k50_0)
def k50_2 : ACode := (.cond (.t 13) (.seq (.region (⟨(some 2), (.p (.mv (.c (.int .i64 0)))), none⟩ :: ⟨(some 3), (.p (.mv (.c (.int .i64 0)))), none⟩ :: [])) .ret) .skip)
def k50_3 : ACode := (.seq (.region (⟨(some 11), (.p (.foff 7 (.t 1))), none⟩ :: ⟨(some 12), (.r (.load 1 false (.t 11))), none⟩ :: ⟨(some 13), (.p (.bin .eql (.t 12) (.c (.int .i64 3)))), none⟩ :: [])) k50_2)
def k50_4 : ACode := (.region (⟨(some 15), (.p (.foff 4 (.t 1))), none⟩ :: ⟨(some 16), (.r (.load 1 false (.t 15))), none⟩ :: ⟨(some 17), (.p (.foff 6 (.t 1))), none⟩ :: ⟨(some 18), (.r (.load 1 false (.t 17))), none⟩ :: ⟨(some 19), (.p (.bin .sub (.t 16) (.t 18))), none⟩ :: ⟨(some 20), (.p (.foff 5 (.t 1))), none⟩ :: ⟨(some 21), (.r (.load 1 false (.t 20))), none⟩ :: ⟨(some 22), (.r (.call 74 [(.t 19), (.t 21)])), none⟩ :: ⟨(some 14), (.p (.mv (.t 22))), none⟩ :: ⟨(some 23), (.p (.ext (.t 14) 0)), none⟩ :: ⟨(some 24), (.p (.ext (.t 14) 1)), none⟩ :: ⟨(some 4), (.p (.mv (.t 23))), none⟩ :: ⟨(some 5), (.p (.mv (.t 24))), none⟩ :: []))
def k50_5 : ACode := (.cond (.t 26) (.seq (.region (⟨(some 2), (.p (.mv (.c (.int .i64 0)))), none⟩ :: ⟨(some 3), (.p (.mv (.c (.int .i64 3)))), none⟩ :: [])) .ret) .skip)
def k50_6 : ACode := (.seq (.region (⟨(some 25), (.p (.mv (.t 5))), none⟩ :: ⟨(some 26), (.p (.un .not (.t 25))), none⟩ :: [])) k50_5)
def k50_7 : ACode := (.region (⟨(some 27), (.p (.foff 8 (.t 1))), none⟩ :: ⟨(some 28), (.r (.load 1 false (.t 27))), none⟩ :: ⟨(some 29), (.p (.foff 6 (.t 1))), none⟩ :: ⟨(some 30), (.r (.load 1 false (.t 29))), none⟩ :: ⟨(some 31), (.p (.bin .gtr (.t 28) (.t 30))), none⟩ :: []))
def k50_8 : ACode := (.region (⟨(some 33), (.p (.foff 8 (.t 1))), none⟩ :: ⟨(some 34), (.r (.load 1 false (.t 33))), none⟩ :: ⟨(some 35), (.p (.foff 6 (.t 1))), none⟩ :: ⟨(some 36), (.r (.load 1 false (.t 35))), none⟩ :: ⟨(some 37), (.p (.bin .sub (.t 34) (.t 36))), none⟩ :: ⟨(some 38), (.p (.foff 9 (.t 1))), none⟩ :: ⟨(some 39), (.r (.load 1 false (.t 38))), none⟩ :: ⟨(some 40), (.r (.call 74 [(.t 37), (.t 39)])), none⟩ :: ⟨(some 32), (.p (.mv (.t 40))), none⟩ :: ⟨(some 41), (.p (.ext (.t 32) 0)), none⟩ :: ⟨(some 42), (.p (.ext (.t 32) 1)), none⟩ :: ⟨(some 6), (.p (.mv (.t 41))), none⟩ :: ⟨(some 7), (.p (.mv (.t 42))), none⟩ :: []))
def k50_9 : ACode := (.cond (.t 44) (.seq (.region (⟨(some 2), (.p (.mv (.c (.int .i64 0)))), none⟩ :: ⟨(some 3), (.p (.mv (.c (.int .i64 3)))), none⟩ :: [])) .ret) .skip)
def k50_10 : ACode := (.seq (.region (⟨(some 43), (.p (.mv (.t 7))), none⟩ :: ⟨(some 44), (.p (.un .not (.t 43))), none⟩ :: [])) k50_9)
def k50_11 : ACode := (.seq (.region (⟨(some 48), (.p (.mv (.t 6))), none⟩ :: ⟨(some 2), (.p (.mv (.t 48))), none⟩ :: ⟨(some 3), (.p (.mv (.c (.int .i64 0)))), none⟩ :: [])) .ret)
def k50_12 : ACode := (.cond (.t 47) k50_11 .skip)
def k50_13 : ACode := (.seq (.region (⟨(some 45), (.p (.mv (.t 6))), none⟩ :: ⟨(some 46), (.p (.mv (.t 4))), none⟩ :: ⟨(some 47), (.p (.bin .gtr (.t 45) (.t 46))), none⟩ :: [])) k50_12)
def k50_14 : ACode := (.seq k50_10 k50_13)
def k50_15 : ACode := (.seq k50_8 k50_14)
def k50_16 : ACode := (.cond (.t 31) k50_15 .skip)
def k50_17 : ACode := (.seq k50_7 k50_16)
def k50_18 : ACode := (.seq (.region (⟨(some 49), (.p (.mv (.t 4))), none⟩ :: ⟨(some 2), (.p (.mv (.t 49))), none⟩ :: ⟨(some 3), (.p (.mv (.c (.int .i64 0)))), none⟩ :: [])) .ret)
def k50_19 : ACode := (.seq k50_17 k50_18)
def k50_20 : ACode := (.seq k50_6 k50_19)
def k50_21 : ACode := (.seq k50_4 k50_20)
def k50_22 : ACode := (.seq k50_3 k50_21)
def k50_23 : ACode := (.seq k50_1 k50_22)
def cd50 : ACode := (.seq (.region (⟨(some 1), (.a (.bx (.t 0))), none⟩ :: ⟨(some 2), (.p (.mv (.c (.int .i64 0)))), none⟩ :: ⟨(some 3), (.p (.mv (.c (.int .i64 0)))), none⟩ :: [])) k50_23)
def rs50 : List ARes := [(.tmp 2), (.tmp 3)]
def af50 : AFn := ⟨cd50, rs50, 50⟩
theorem c50 : compF Try.prog 50 = some af50 := by kernel_rfl
noncomputable def g_snaffleref07_Worth (p_o : OrderT) : Option (Int × Int) := (Option.bind (g_snaffleref07_Right p_o) fun v1 => (bif (!v1) then (some (0, 1)) else (bif (p_o.Phase == 3) then (some (0, 0)) else (Option.bind (g_snaffleref01_Mul (IntKind.wrap .i64 (p_o.Qty - p_o.Filled)) p_o.Price) fun v2 => (bif (!v2.2) then (some (0, 3)) else (Option.bind ((bif (decide (p_o.NewQty > p_o.Filled)) then (Option.bind (g_snaffleref01_Mul (IntKind.wrap .i64 (p_o.NewQty - p_o.Filled)) p_o.NewPrice) fun v5 => (bif (!v5.2) then (some (.inr (0, 3))) else (bif (decide (v5.1 > v2.1)) then (some (.inr (v5.1, 0))) else (some (.inl ()))))) else (some (.inl ()))) : Option ((Unit) ⊕ ((Int × Int)))) (outE (fun (j3 : Unit) => (some (v2.1, 0))))))))))
noncomputable def sp50 : List DV → Option DV := specT (fun (a : OrderT) => [.agg (e_OrderT a)]) (fun (r : (Int × Int)) => .tup [.int .i64 r.1, .int .i64 r.2]) (fun (a : OrderT) => g_snaffleref07_Worth a)
theorem inj50 : ∀ (a b : OrderT), List.map z1 ((fun (a : OrderT) => [.agg (e_OrderT a)]) a) = List.map z1 ((fun (a : OrderT) => [.agg (e_OrderT a)]) b) → a = b := by
 intro a0 b0 h
 simp only [List.map_cons, List.map_nil, List.cons.injEq, and_true] at h
 exact (e_OrderT_inj (DV.agg.inj h))
set_option maxHeartbeats 1000000 in
theorem w50 {C : FuncId → Con} (hC : ConOk Try.prog C) {q42 : List DV → Option DV} (hc42 : C 42 = .val q42) (hs42 : ∀ (x0 : OrderT) (ds : List DV), List.map z1 ds = List.map z1 [.agg (e_OrderT x0)] → q42 ds = (g_snaffleref07_Right x0).map fun r => .bool r) {q74 : List DV → Option DV} (hc74 : C 74 = .val q74) (hs74 : ∀ (x0 : Int) (x1 : Int) (ds : List DV), List.map z1 ds = List.map z1 [.int .i64 x0, .int .i64 x1] → q74 ds = (g_snaffleref01_Mul x0 x1).map fun r => .tup [.int .i64 r.1, .bool r.2]) : ValOk Try.prog 50 sp50 := by
 refine valT_of hC c50 _ _ _ inj50 ?_
 intro p_o
 show Imq (g_snaffleref07_Worth p_o) (fun _ => True) fun r => WP Try.prog C (fun _ => False) cd50 (retQ fun s => outV s rs50 = some (.tup [.int .i64 r.1, .int .i64 r.2])) ⟨⟨50, [(0, (.val (.agg [(.int .i64 p_o.Id), (.int .i64 p_o.Account), (.int .i64 p_o.Symbol), (.int .i64 p_o.Side), (.int .i64 p_o.Qty), (.int .i64 p_o.Price), (.int .i64 p_o.Filled), (.int .i64 p_o.Phase), (.int .i64 p_o.NewQty), (.int .i64 p_o.NewPrice), (.int .i64 p_o.Version), (.bool p_o.Asked)])))]⟩, mkH []⟩
 unfold g_snaffleref07_Worth
 refine G_seq ?_
 refine G_region ?_
 refine G_op [1001] (v := (.box [1001] 0)) (E_a (u := (.box [1001] 0)) (b := (.box (lOrderT p_o))) (h' := [([1001], (.box (lOrderT p_o)))]) (by kernel_rfl) (by kernel_rfl) (by kernel_rfl)) rfl rfl ?_
 refine G_op [0] (v := (ii 0)) (E_p (by kernel_rfl)) rfl rfl ?_
 refine G_op [0] (v := (ii 0)) (E_p (by kernel_rfl)) rfl rfl ?_
 refine G_nil ?_
 refine G_then ?_
 refine G_seq ?_
 refine G_seq ?_
 refine G_region ?_
 refine G_op [0] (v := (.agg (lOrderT p_o))) (E_load (by kernel_rfl)) rfl rfl ?_
 refine q_bind fun v1 hv1 => ?_
 refine G_op [0] (v := (bb v1)) (E_call (ds := [.agg (e_OrderT p_o)]) (r := .bool v1) hc42 (by kernel_rfl) ((hs42 p_o _ (by kernel_rfl)).trans (congrArg _ hv1))) rfl rfl ?_
 refine G_op [0] (v := (bb ((!v1)))) (E_p (by kernel_rfl)) rfl rfl ?_
 refine G_nil ?_
 refine G_then ?_
 refine G_cond (t := (!v1)) (by kernel_rfl) (fun _ => ?_) (fun _ => ?_)
 ·refine G_seq ?_
  refine G_region ?_
  refine G_op [0] (v := (ii 0)) (E_p (by kernel_rfl)) rfl rfl ?_
  refine G_op [0] (v := (ii 1)) (E_p (by kernel_rfl)) rfl rfl ?_
  refine G_nil ?_
  refine G_then ?_
  refine G_ret ?_
  refine G_thenR ?_
  refine G_retR ?_
  refine q_some fun hA => ?_
  show outV _ _ = some _
  kernel_rfl
 ·refine G_skip ?_
  refine G_then ?_
  refine G_seq ?_
  refine G_seq ?_
  refine G_region ?_
  refine G_op [0] (v := (.box [1001] 7)) (E_p (by kernel_rfl)) rfl rfl ?_
  refine G_op [0] (v := (ii p_o.Phase)) (E_load (by kernel_rfl)) rfl rfl ?_
  refine G_op [0] (v := (bb ((p_o.Phase == 3)))) (E_p (by kernel_rfl)) rfl rfl ?_
  refine G_nil ?_
  refine G_then ?_
  refine G_cond (t := (p_o.Phase == 3)) (by kernel_rfl) (fun _ => ?_) (fun _ => ?_)
  ·refine G_seq ?_
   refine G_region ?_
   refine G_op [0] (v := (ii 0)) (E_p (by kernel_rfl)) rfl rfl ?_
   refine G_op [0] (v := (ii 0)) (E_p (by kernel_rfl)) rfl rfl ?_
   refine G_nil ?_
   refine G_then ?_
   refine G_ret ?_
   refine G_thenR ?_
   refine G_retR ?_
   refine q_some fun hA => ?_
   show outV _ _ = some _
   kernel_rfl
  ·refine G_skip ?_
   refine G_then ?_
   refine G_seq ?_
   refine G_region ?_
   refine G_op [0] (v := (.box [1001] 4)) (E_p (by kernel_rfl)) rfl rfl ?_
   refine G_op [0] (v := (ii p_o.Qty)) (E_load (by kernel_rfl)) rfl rfl ?_
   refine G_op [0] (v := (.box [1001] 6)) (E_p (by kernel_rfl)) rfl rfl ?_
   refine G_op [0] (v := (ii p_o.Filled)) (E_load (by kernel_rfl)) rfl rfl ?_
   refine G_op [0] (v := (ii ((IntKind.wrap .i64 (p_o.Qty - p_o.Filled))))) (E_p (by kernel_rfl)) rfl rfl ?_
   refine G_op [0] (v := (.box [1001] 5)) (E_p (by kernel_rfl)) rfl rfl ?_
   refine G_op [0] (v := (ii p_o.Price)) (E_load (by kernel_rfl)) rfl rfl ?_
   refine q_bind fun v2 hv2 => ?_
   refine G_op [0] (v := (.val (.tup [(.int .i64 v2.1), (.bool v2.2)]))) (E_call (ds := [.int .i64 (IntKind.wrap .i64 (p_o.Qty - p_o.Filled)), .int .i64 p_o.Price]) (r := .tup [.int .i64 v2.1, .bool v2.2]) hc74 (by kernel_rfl) ((hs74 (IntKind.wrap .i64 (p_o.Qty - p_o.Filled)) p_o.Price _ (by kernel_rfl)).trans (congrArg _ hv2))) rfl rfl ?_
   refine G_op [0] (v := (.val (.tup [(.int .i64 v2.1), (.bool v2.2)]))) (E_p (by kernel_rfl)) rfl rfl ?_
   refine G_op [0] (v := (ii v2.1)) (E_p (by kernel_rfl)) rfl rfl ?_
   refine G_op [0] (v := (bb v2.2)) (E_p (by kernel_rfl)) rfl rfl ?_
   refine G_op [0] (v := (ii v2.1)) (E_p (by kernel_rfl)) rfl rfl ?_
   refine G_op [0] (v := (bb v2.2)) (E_p (by kernel_rfl)) rfl rfl ?_
   refine G_nil ?_
   refine G_then ?_
   refine G_subW (s0 := ⟨⟨50, [(5, (bb v2.2)), (4, (ii v2.1)), (3, (ii 0)), (2, (ii 0)), (1, (.box [1001] 0))]⟩, mkH [([1001], (.box (lOrderT p_o)))]⟩) (by exact Sub_env ⟨.refl _, .refl _, .refl _, .refl _, .refl _, trivial⟩) ?_
   refine G_seq ?_
   refine G_seq ?_
   refine G_region ?_
   refine G_op [0] (v := (bb v2.2)) (E_p (by kernel_rfl)) rfl rfl ?_
   refine G_op [0] (v := (bb ((!v2.2)))) (E_p (by kernel_rfl)) rfl rfl ?_
   refine G_nil ?_
   refine G_then ?_
   refine G_cond (t := (!v2.2)) (by kernel_rfl) (fun _ => ?_) (fun _ => ?_)
   ·refine G_seq ?_
    refine G_region ?_
    refine G_op [0] (v := (ii 0)) (E_p (by kernel_rfl)) rfl rfl ?_
    refine G_op [0] (v := (ii 3)) (E_p (by kernel_rfl)) rfl rfl ?_
    refine G_nil ?_
    refine G_then ?_
    refine G_ret ?_
    refine G_thenR ?_
    refine G_retR ?_
    refine q_some fun hA => ?_
    show outV _ _ = some _
    kernel_rfl
   ·refine G_skip ?_
    refine G_then ?_
    refine G_seq ?_
    refine G_seq ?_
    refine G_region ?_
    refine G_op [0] (v := (.box [1001] 8)) (E_p (by kernel_rfl)) rfl rfl ?_
    refine G_op [0] (v := (ii p_o.NewQty)) (E_load (by kernel_rfl)) rfl rfl ?_
    refine G_op [0] (v := (.box [1001] 6)) (E_p (by kernel_rfl)) rfl rfl ?_
    refine G_op [0] (v := (ii p_o.Filled)) (E_load (by kernel_rfl)) rfl rfl ?_
    refine G_op [0] (v := (bb ((decide (p_o.NewQty > p_o.Filled))))) (E_p (by kernel_rfl)) rfl rfl ?_
    refine G_nil ?_
    refine G_then ?_
    refine G_joinX (st := fun j3 => ⟨⟨50, [(4, (ii v2.1)), (3, (ii 0)), (2, (ii 0))]⟩, mkH []⟩) (fun j3 => ?_) (fun r4 hr4 => ?_)
    ·refine G_then ?_
     refine G_seq ?_
     refine G_region ?_
     refine G_op [0] (v := (ii v2.1)) (E_p (by kernel_rfl)) rfl rfl ?_
     refine G_op [0] (v := (ii v2.1)) (E_p (by kernel_rfl)) rfl rfl ?_
     refine G_op [0] (v := (ii 0)) (E_p (by kernel_rfl)) rfl rfl ?_
     refine G_nil ?_
     refine G_then ?_
     refine G_ret ?_
     refine G_retR ?_
     refine q_some fun hA => ?_
     show outV _ _ = some _
     kernel_rfl
    ·refine G_cond (t := (decide (p_o.NewQty > p_o.Filled))) (by kernel_rfl) (fun _ => ?_) (fun _ => ?_)
     ·refine G_seq ?_
      refine G_region ?_
      refine G_op [0] (v := (.box [1001] 8)) (E_p (by kernel_rfl)) rfl rfl ?_
      refine G_op [0] (v := (ii p_o.NewQty)) (E_load (by kernel_rfl)) rfl rfl ?_
      refine G_op [0] (v := (.box [1001] 6)) (E_p (by kernel_rfl)) rfl rfl ?_
      refine G_op [0] (v := (ii p_o.Filled)) (E_load (by kernel_rfl)) rfl rfl ?_
      refine G_op [0] (v := (ii ((IntKind.wrap .i64 (p_o.NewQty - p_o.Filled))))) (E_p (by kernel_rfl)) rfl rfl ?_
      refine G_op [0] (v := (.box [1001] 9)) (E_p (by kernel_rfl)) rfl rfl ?_
      refine G_op [0] (v := (ii p_o.NewPrice)) (E_load (by kernel_rfl)) rfl rfl ?_
      refine q_bind fun v5 hv5 => ?_
      refine G_op [0] (v := (.val (.tup [(.int .i64 v5.1), (.bool v5.2)]))) (E_call (ds := [.int .i64 (IntKind.wrap .i64 (p_o.NewQty - p_o.Filled)), .int .i64 p_o.NewPrice]) (r := .tup [.int .i64 v5.1, .bool v5.2]) hc74 (by kernel_rfl) ((hs74 (IntKind.wrap .i64 (p_o.NewQty - p_o.Filled)) p_o.NewPrice _ (by kernel_rfl)).trans (congrArg _ hv5))) rfl rfl ?_
      refine G_op [0] (v := (.val (.tup [(.int .i64 v5.1), (.bool v5.2)]))) (E_p (by kernel_rfl)) rfl rfl ?_
      refine G_op [0] (v := (ii v5.1)) (E_p (by kernel_rfl)) rfl rfl ?_
      refine G_op [0] (v := (bb v5.2)) (E_p (by kernel_rfl)) rfl rfl ?_
      refine G_op [0] (v := (ii v5.1)) (E_p (by kernel_rfl)) rfl rfl ?_
      refine G_op [0] (v := (bb v5.2)) (E_p (by kernel_rfl)) rfl rfl ?_
      refine G_nil ?_
      refine G_then ?_
      refine G_subW (s0 := ⟨⟨50, [(7, (bb v5.2)), (6, (ii v5.1)), (4, (ii v2.1)), (3, (ii 0)), (2, (ii 0))]⟩, mkH []⟩) (by exact Sub_keep ⟨.refl _, .refl _, .refl _, .refl _, .refl _, trivial⟩ trivial (by kernel_rfl) (by kernel_rfl)) ?_
      refine G_seq ?_
      refine G_seq ?_
      refine G_region ?_
      refine G_op [0] (v := (bb v5.2)) (E_p (by kernel_rfl)) rfl rfl ?_
      refine G_op [0] (v := (bb ((!v5.2)))) (E_p (by kernel_rfl)) rfl rfl ?_
      refine G_nil ?_
      refine G_then ?_
      refine G_cond (t := (!v5.2)) (by kernel_rfl) (fun _ => ?_) (fun _ => ?_)
      ·refine G_seq ?_
       refine G_region ?_
       refine G_op [0] (v := (ii 0)) (E_p (by kernel_rfl)) rfl rfl ?_
       refine G_op [0] (v := (ii 3)) (E_p (by kernel_rfl)) rfl rfl ?_
       refine G_nil ?_
       refine G_then ?_
       refine G_ret ?_
       refine G_thenR ?_
       refine G_thenR ?_
       refine G_retR ?_
       refine q_some fun hA => ?_
       cases hA
       replace hA := hr4
       show outV _ _ = some _
       kernel_rfl
      ·refine G_skip ?_
       refine G_then ?_
       refine G_seq ?_
       refine G_region ?_
       refine G_op [0] (v := (ii v5.1)) (E_p (by kernel_rfl)) rfl rfl ?_
       refine G_op [0] (v := (ii v2.1)) (E_p (by kernel_rfl)) rfl rfl ?_
       refine G_op [0] (v := (bb ((decide (v5.1 > v2.1))))) (E_p (by kernel_rfl)) rfl rfl ?_
       refine G_nil ?_
       refine G_then ?_
       refine G_cond (t := (decide (v5.1 > v2.1))) (by kernel_rfl) (fun _ => ?_) (fun _ => ?_)
       ·refine G_seq ?_
        refine G_region ?_
        refine G_op [0] (v := (ii v5.1)) (E_p (by kernel_rfl)) rfl rfl ?_
        refine G_op [0] (v := (ii v5.1)) (E_p (by kernel_rfl)) rfl rfl ?_
        refine G_op [0] (v := (ii 0)) (E_p (by kernel_rfl)) rfl rfl ?_
        refine G_nil ?_
        refine G_then ?_
        refine G_ret ?_
        refine G_thenR ?_
        refine G_retR ?_
        refine q_some fun hA => ?_
        cases hA
        replace hA := hr4
        show outV _ _ = some _
        kernel_rfl
       ·refine G_skip ?_
        exact q_some fun h => (QN_then : QN _ _) _ _ (by exact Sub_env ⟨.refl _, .refl _, .refl _, trivial⟩) h
     ·refine G_skip ?_
      exact q_some fun h => (QN_then : QN _ _) _ _ (by exact Sub_keep ⟨.refl _, .refl _, .refl _, trivial⟩ trivial (by kernel_rfl) (by kernel_rfl)) h
theorem s50 (x0 : OrderT) (ds : List DV) (hd : List.map z1 ds = List.map z1 [.agg (e_OrderT x0)]) : sp50 ds = (g_snaffleref07_Worth x0).map fun r => .tup [.int .i64 r.1, .int .i64 r.2] :=
 specT_at (ea := fun (a : OrderT) => [.agg (e_OrderT a)]) (eb := fun (r : (Int × Int)) => .tup [.int .i64 r.1, .int .i64 r.2]) (g := fun (a : OrderT) => g_snaffleref07_Worth a) inj50 x0 hd

def k51_0 : ACode := (.region (⟨(some 4), (.r (.load 12 true (.t 1))), none⟩ :: ⟨(some 5), (.r (.call 42 [(.t 4)])), none⟩ :: ⟨(some 6), (.p (.un .not (.t 5))), none⟩ :: ⟨(some 7), (.p (.mv (.t 6))), none⟩ :: ⟨(some 8), (.p (.foff 7 (.t 1))), (some (7, false))⟩ :: ⟨(some 9), (.r (.load 1 false (.t 8))), (some (7, false))⟩ :: ⟨(some 10), (.p (.bin .eql (.t 9) (.c (.int .i64 3)))), (some (7, false))⟩ :: ⟨(some 11), (.p (.pick (.t 7) (.c (.bool true)) (.t 10))), none⟩ :: []))
def k51_1 : ACode := (.seq k51_0 (.cond (.t 11) (.seq (.region (⟨(some 2), (.p (.mv (.c (.int .i64 0)))), none⟩ :: [])) .ret) .skip))
def k51_2 : ACode := (.region (⟨(some 12), (.p (.foff 4 (.t 1))), none⟩ :: ⟨(some 13), (.r (.load 1 false (.t 12))), none⟩ :: ⟨(some 14), (.p (.foff 6 (.t 1))), none⟩ :: ⟨(some 15), (.r (.load 1 false (.t 14))), none⟩ :: ⟨(some 16), (.p (.bin .sub (.t 13) (.t 15))), none⟩ :: ⟨(some 3), (.p (.mv (.t 16))), none⟩ :: []))
def k51_3 : ACode := (.region (⟨(some 17), (.p (.foff 8 (.t 1))), none⟩ :: ⟨(some 18), (.r (.load 1 false (.t 17))), none⟩ :: ⟨(some 19), (.p (.foff 4 (.t 1))), none⟩ :: ⟨(some 20), (.r (.load 1 false (.t 19))), none⟩ :: ⟨(some 21), (.p (.bin .gtr (.t 18) (.t 20))), none⟩ :: []))
def k51_4 : ACode := (.region (⟨(some 22), (.p (.foff 8 (.t 1))), none⟩ :: ⟨(some 23), (.r (.load 1 false (.t 22))), none⟩ :: ⟨(some 24), (.p (.foff 6 (.t 1))), none⟩ :: ⟨(some 25), (.r (.load 1 false (.t 24))), none⟩ :: ⟨(some 26), (.p (.bin .sub (.t 23) (.t 25))), none⟩ :: ⟨(some 3), (.p (.mv (.t 26))), none⟩ :: []))
def k51_5 : ACode := (.cond (.t 21) k51_4 .skip)
def k51_6 : ACode := (.seq k51_3 k51_5)
def k51_7 : ACode := (.seq k51_6 (.seq (.region (⟨(some 27), (.p (.mv (.t 3))), none⟩ :: ⟨(some 2), (.p (.mv (.t 27))), none⟩ :: [])) .ret))
def k51_8 : ACode := (.seq k51_2 k51_7)
def k51_9 : ACode := (.seq k51_1 k51_8)
def cd51 : ACode := (.seq (.region (⟨(some 1), (.a (.bx (.t 0))), none⟩ :: ⟨(some 2), (.p (.mv (.c (.int .i64 0)))), none⟩ :: [])) k51_9)
def rs51 : List ARes := [(.tmp 2)]
def af51 : AFn := ⟨cd51, rs51, 28⟩
theorem c51 : compF Try.prog 51 = some af51 := by kernel_rfl
noncomputable def g_snaffleref07_Open (p_o : OrderT) : Option Int := (Option.bind (g_snaffleref07_Right p_o) fun v1 => (bif ((!v1) || (p_o.Phase == 3)) then (some 0) else (Option.bind ((bif (decide (p_o.NewQty > p_o.Qty)) then (some (IntKind.wrap .i64 (p_o.NewQty - p_o.Filled))) else (some (IntKind.wrap .i64 (p_o.Qty - p_o.Filled)))) : Option (Int)) (fun (j5 : Int) => (some j5)))))
noncomputable def sp51 : List DV → Option DV := specT (fun (a : OrderT) => [.agg (e_OrderT a)]) (fun (r : Int) => .int .i64 r) (fun (a : OrderT) => g_snaffleref07_Open a)
theorem inj51 : ∀ (a b : OrderT), List.map z1 ((fun (a : OrderT) => [.agg (e_OrderT a)]) a) = List.map z1 ((fun (a : OrderT) => [.agg (e_OrderT a)]) b) → a = b := by
 intro a0 b0 h
 simp only [List.map_cons, List.map_nil, List.cons.injEq, and_true] at h
 exact (e_OrderT_inj (DV.agg.inj h))
set_option maxHeartbeats 1000000 in
theorem w51 {C : FuncId → Con} (hC : ConOk Try.prog C) {q42 : List DV → Option DV} (hc42 : C 42 = .val q42) (hs42 : ∀ (x0 : OrderT) (ds : List DV), List.map z1 ds = List.map z1 [.agg (e_OrderT x0)] → q42 ds = (g_snaffleref07_Right x0).map fun r => .bool r) : ValOk Try.prog 51 sp51 := by
 refine valT_of hC c51 _ _ _ inj51 ?_
 intro p_o
 show Imq (g_snaffleref07_Open p_o) (fun _ => True) fun r => WP Try.prog C (fun _ => False) cd51 (retQ fun s => outV s rs51 = some (.int .i64 r)) ⟨⟨28, [(0, (.val (.agg [(.int .i64 p_o.Id), (.int .i64 p_o.Account), (.int .i64 p_o.Symbol), (.int .i64 p_o.Side), (.int .i64 p_o.Qty), (.int .i64 p_o.Price), (.int .i64 p_o.Filled), (.int .i64 p_o.Phase), (.int .i64 p_o.NewQty), (.int .i64 p_o.NewPrice), (.int .i64 p_o.Version), (.bool p_o.Asked)])))]⟩, mkH []⟩
 unfold g_snaffleref07_Open
 refine G_seq ?_
 refine G_region ?_
 refine G_op [1001] (v := (.box [1001] 0)) (E_a (u := (.box [1001] 0)) (b := (.box (lOrderT p_o))) (h' := [([1001], (.box (lOrderT p_o)))]) (by kernel_rfl) (by kernel_rfl) (by kernel_rfl)) rfl rfl ?_
 refine G_op [0] (v := (ii 0)) (E_p (by kernel_rfl)) rfl rfl ?_
 refine G_nil ?_
 refine G_then ?_
 refine G_seq ?_
 refine G_seq ?_
 refine G_region ?_
 refine G_op [0] (v := (.agg (lOrderT p_o))) (E_load (by kernel_rfl)) rfl rfl ?_
 refine q_bind fun v1 hv1 => ?_
 refine G_op [0] (v := (bb v1)) (E_call (ds := [.agg (e_OrderT p_o)]) (r := .bool v1) hc42 (by kernel_rfl) ((hs42 p_o _ (by kernel_rfl)).trans (congrArg _ hv1))) rfl rfl ?_
 refine G_op [0] (v := (bb ((!v1)))) (E_p (by kernel_rfl)) rfl rfl ?_
 refine G_op [0] (v := (bb ((!v1)))) (E_p (by kernel_rfl)) rfl rfl ?_
 refine G_pure (l := []) (st := ⟨⟨28, [(11, (bb (((!v1) || (p_o.Phase == 3))))), (2, (ii 0)), (1, (.box [1001] 0))]⟩, mkH [([1001], (.box (lOrderT p_o)))]⟩) ?_ (fun r4 => ?_)
 ·refine G_nil ?_
  refine G_then ?_
  refine G_cond (t := ((!v1) || (p_o.Phase == 3))) (by kernel_rfl) (fun _ => ?_) (fun _ => ?_)
  ·refine G_seq ?_
   refine G_region ?_
   refine G_op [0] (v := (ii 0)) (E_p (by kernel_rfl)) rfl rfl ?_
   refine G_nil ?_
   refine G_then ?_
   refine G_ret ?_
   refine G_thenR ?_
   refine G_retR ?_
   refine q_some fun hA => ?_
   show outV _ _ = some _
   kernel_rfl
  ·refine G_skip ?_
   refine G_then ?_
   refine G_seq ?_
   refine G_region ?_
   refine G_op [0] (v := (.box [1001] 4)) (E_p (by kernel_rfl)) rfl rfl ?_
   refine G_op [0] (v := (ii p_o.Qty)) (E_load (by kernel_rfl)) rfl rfl ?_
   refine G_op [0] (v := (.box [1001] 6)) (E_p (by kernel_rfl)) rfl rfl ?_
   refine G_op [0] (v := (ii p_o.Filled)) (E_load (by kernel_rfl)) rfl rfl ?_
   refine G_op [0] (v := (ii ((IntKind.wrap .i64 (p_o.Qty - p_o.Filled))))) (E_p (by kernel_rfl)) rfl rfl ?_
   refine G_op [0] (v := (ii ((IntKind.wrap .i64 (p_o.Qty - p_o.Filled))))) (E_p (by kernel_rfl)) rfl rfl ?_
   refine G_nil ?_
   refine G_then ?_
   refine G_seq ?_
   refine G_seq ?_
   refine G_region ?_
   refine G_op [0] (v := (.box [1001] 8)) (E_p (by kernel_rfl)) rfl rfl ?_
   refine G_op [0] (v := (ii p_o.NewQty)) (E_load (by kernel_rfl)) rfl rfl ?_
   refine G_op [0] (v := (.box [1001] 4)) (E_p (by kernel_rfl)) rfl rfl ?_
   refine G_op [0] (v := (ii p_o.Qty)) (E_load (by kernel_rfl)) rfl rfl ?_
   refine G_op [0] (v := (bb ((decide (p_o.NewQty > p_o.Qty))))) (E_p (by kernel_rfl)) rfl rfl ?_
   refine G_nil ?_
   refine G_then ?_
   refine G_subW (s0 := ⟨⟨28, [(21, (bb ((decide (p_o.NewQty > p_o.Qty))))), (3, (ii ((IntKind.wrap .i64 (p_o.Qty - p_o.Filled))))), (2, (ii 0)), (1, (.box [1001] 0))]⟩, mkH [([1001], (.box (lOrderT p_o)))]⟩) (by exact Sub_env ⟨.refl _, .refl _, .refl _, .refl _, trivial⟩) ?_
   refine G_join (st := fun j5 => ⟨⟨28, [(3, (ii j5)), (2, (ii 0))]⟩, mkH []⟩) (fun j5 => ?_) (fun r6 hr6 => ?_)
   ·refine G_then ?_
    refine G_seq ?_
    refine G_region ?_
    refine G_op [0] (v := (ii j5)) (E_p (by kernel_rfl)) rfl rfl ?_
    refine G_op [0] (v := (ii j5)) (E_p (by kernel_rfl)) rfl rfl ?_
    refine G_nil ?_
    refine G_then ?_
    refine G_ret ?_
    refine G_retR ?_
    refine q_some fun hA => ?_
    show outV _ _ = some _
    kernel_rfl
   ·refine G_cond (t := (decide (p_o.NewQty > p_o.Qty))) (by kernel_rfl) (fun _ => ?_) (fun _ => ?_)
    ·refine G_region ?_
     refine G_op [0] (v := (.box [1001] 8)) (E_p (by kernel_rfl)) rfl rfl ?_
     refine G_op [0] (v := (ii p_o.NewQty)) (E_load (by kernel_rfl)) rfl rfl ?_
     refine G_op [0] (v := (.box [1001] 6)) (E_p (by kernel_rfl)) rfl rfl ?_
     refine G_op [0] (v := (ii p_o.Filled)) (E_load (by kernel_rfl)) rfl rfl ?_
     refine G_op [0] (v := (ii ((IntKind.wrap .i64 (p_o.NewQty - p_o.Filled))))) (E_p (by kernel_rfl)) rfl rfl ?_
     refine G_op [0] (v := (ii ((IntKind.wrap .i64 (p_o.NewQty - p_o.Filled))))) (E_p (by kernel_rfl)) rfl rfl ?_
     refine G_nil ?_
     exact q_some fun h => (QN_then : QN _ _) _ _ (by exact Sub_keep ⟨.refl _, .refl _, trivial⟩ trivial (by kernel_rfl) (by kernel_rfl)) h
    ·refine G_skip ?_
     exact q_some fun h => (QN_then : QN _ _) _ _ (by exact Sub_keep ⟨.refl _, .refl _, trivial⟩ trivial (by kernel_rfl) (by kernel_rfl)) h
 ·refine q_two (!v1) (fun h2 => ?_) (fun h2 => ?_)
  ·refine G_subR (Sub_lit (t := 7) (v := true) rfl h2) ?_
   refine G_off rfl rfl ?_
   refine G_off rfl rfl ?_
   refine G_off rfl rfl ?_
   refine G_op [0] (v := (bb true)) (E_p (by kernel_rfl)) rfl rfl ?_
   exact q_some fun h => RP_sub (by exact Sub_env ⟨(Wk_or1 h2), .refl _, .refl _, trivial⟩) h
  ·refine G_subR (Sub_lit (t := 7) (v := false) rfl h2) ?_
   refine G_op [0] (v := (.box [1001] 7)) (E_p (by kernel_rfl)) rfl rfl ?_
   refine G_op [0] (v := (ii p_o.Phase)) (E_load (by kernel_rfl)) rfl rfl ?_
   refine G_op [0] (v := (bb ((p_o.Phase == 3)))) (E_p (by kernel_rfl)) rfl rfl ?_
   refine G_op [0] (v := (bb ((p_o.Phase == 3)))) (E_p (by kernel_rfl)) rfl rfl ?_
   exact q_some fun h => RP_sub (by exact Sub_env ⟨(Wk_or0 h2), .refl _, .refl _, trivial⟩) h
theorem s51 (x0 : OrderT) (ds : List DV) (hd : List.map z1 ds = List.map z1 [.agg (e_OrderT x0)]) : sp51 ds = (g_snaffleref07_Open x0).map fun r => .int .i64 r :=
 specT_at (ea := fun (a : OrderT) => [.agg (e_OrderT a)]) (eb := fun (r : Int) => .int .i64 r) (g := fun (a : OrderT) => g_snaffleref07_Open a) inj51 x0 hd
end Go.AI
