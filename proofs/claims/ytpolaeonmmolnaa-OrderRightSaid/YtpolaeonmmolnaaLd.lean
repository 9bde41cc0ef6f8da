import Derived.Test.YtpolaeonmmolnaaLc
namespace Go.AI
open Go.Proofs
set_option linter.unusedVariables false
set_option linter.unusedSimpArgs false
def t66_7 : List AIns := (⟨(some 4), (.p (.mv (.t 72))), none⟩ :: [])
def t66_9 : List AIns := (⟨(some 4), (.p (.mv (.t 96))), none⟩ :: [])
def t66_15 : List AIns := (⟨(some 4), (.p (.mv (.t 154))), none⟩ :: [])
def t66_16 : List AIns := (⟨(some 167), (.p (.pick (.t 158) (.t 166) (.c (.bool false)))), none⟩ :: [])
def t66_20 : List AIns := (⟨(some 4), (.p (.mv (.t 206))), none⟩ :: [])
def t66_21 : List AIns := (⟨(some 4), (.p (.mv (.t 223))), none⟩ :: [])
def t66_22 : List AIns := (⟨(some 4), (.p (.mv (.t 235))), none⟩ :: [])
def t66_23 : List AIns := (⟨(some 2), (.p (.mv (.t 241))), none⟩ :: [])
def t66_6 : List AIns := (⟨(some 68), (.p (.mv (.t 67))), none⟩ :: ⟨(some 69), (.p (.foff 6 (.t 1))), (some (68, true))⟩ :: ⟨(some 70), (.r (.load 1 false (.t 69))), (some (68, true))⟩ :: ⟨(some 71), (.p (.bin .gtr (.t 70) (.c (.int .i64 0)))), (some (68, true))⟩ :: ⟨(some 72), (.p (.pick (.t 68) (.t 71) (.c (.bool false)))), none⟩ :: t66_7)
def t66_8 : List AIns := (⟨(some 92), (.p (.mv (.t 91))), none⟩ :: ⟨(some 93), (.p (.foff 6 (.t 1))), (some (92, true))⟩ :: ⟨(some 94), (.r (.load 1 false (.t 93))), (some (92, true))⟩ :: ⟨(some 95), (.p (.bin .gtr (.t 94) (.c (.int .i64 0)))), (some (92, true))⟩ :: ⟨(some 96), (.p (.pick (.t 92) (.t 95) (.c (.bool false)))), none⟩ :: t66_9)
def t66_14 : List AIns := (⟨(some 150), (.p (.mv (.t 149))), none⟩ :: ⟨(some 151), (.p (.foff 9 (.t 1))), (some (150, true))⟩ :: ⟨(some 152), (.r (.load 1 false (.t 151))), (some (150, true))⟩ :: ⟨(some 153), (.p (.bin .geq (.t 152) (.c (.int .i64 0)))), (some (150, true))⟩ :: ⟨(some 154), (.p (.pick (.t 150) (.t 153) (.c (.bool false)))), none⟩ :: t66_15)
def t66_19 : List AIns := (⟨(some 202), (.p (.mv (.t 201))), none⟩ :: ⟨(some 203), (.p (.foff 1 (.t 1))), (some (202, true))⟩ :: ⟨(some 204), (.r (.load 1 false (.t 203))), (some (202, true))⟩ :: ⟨(some 205), (.r (.call 84 [(.t 204)])), (some (202, true))⟩ :: ⟨(some 206), (.p (.pick (.t 202) (.t 205) (.c (.bool false)))), none⟩ :: t66_20)
def t66_5 : List AIns := (⟨(some 63), (.p (.mv (.t 62))), none⟩ :: ⟨(some 64), (.p (.foff 5 (.t 1))), (some (63, true))⟩ :: ⟨(some 65), (.r (.load 1 false (.t 64))), (some (63, true))⟩ :: ⟨(some 66), (.p (.bin .gtr (.t 65) (.c (.int .i64 0)))), (some (63, true))⟩ :: ⟨(some 67), (.p (.pick (.t 63) (.t 66) (.c (.bool false)))), none⟩ :: t66_6)
def t66_13 : List AIns := (⟨(some 145), (.p (.mv (.t 144))), none⟩ :: ⟨(some 146), (.p (.foff 8 (.t 1))), (some (145, true))⟩ :: ⟨(some 147), (.r (.load 1 false (.t 146))), (some (145, true))⟩ :: ⟨(some 148), (.p (.bin .geq (.t 147) (.c (.int .i64 0)))), (some (145, true))⟩ :: ⟨(some 149), (.p (.pick (.t 145) (.t 148) (.c (.bool false)))), none⟩ :: t66_14)
def t66_18 : List AIns := (⟨(some 197), (.p (.mv (.t 196))), none⟩ :: ⟨(some 198), (.p (.foff 12 (.t 1))), (some (197, true))⟩ :: ⟨(some 199), (.r (.load 1 false (.t 198))), (some (197, true))⟩ :: ⟨(some 200), (.p (.bin .leq (.t 199) (.c (.int .i64 6)))), (some (197, true))⟩ :: ⟨(some 201), (.p (.pick (.t 197) (.t 200) (.c (.bool false)))), none⟩ :: t66_19)
def t66_4 : List AIns := (⟨(some 58), (.p (.mv (.t 57))), none⟩ :: ⟨(some 59), (.p (.foff 4 (.t 1))), (some (58, true))⟩ :: ⟨(some 60), (.r (.load 1 false (.t 59))), (some (58, true))⟩ :: ⟨(some 61), (.p (.bin .leq (.t 60) (.c (.int .i64 2)))), (some (58, true))⟩ :: ⟨(some 62), (.p (.pick (.t 58) (.t 61) (.c (.bool false)))), none⟩ :: t66_5)
def t66_12 : List AIns := (⟨(some 140), (.p (.mv (.t 139))), none⟩ :: ⟨(some 141), (.p (.foff 7 (.t 1))), (some (140, true))⟩ :: ⟨(some 142), (.r (.load 1 false (.t 141))), (some (140, true))⟩ :: ⟨(some 143), (.p (.bin .geq (.t 142) (.c (.int .i64 0)))), (some (140, true))⟩ :: ⟨(some 144), (.p (.pick (.t 140) (.t 143) (.c (.bool false)))), none⟩ :: t66_13)
def t66_17 : List AIns := (⟨(some 192), (.p (.mv (.t 191))), none⟩ :: ⟨(some 193), (.p (.foff 12 (.t 1))), (some (192, true))⟩ :: ⟨(some 194), (.r (.load 1 false (.t 193))), (some (192, true))⟩ :: ⟨(some 195), (.p (.bin .geq (.t 194) (.c (.int .i64 1)))), (some (192, true))⟩ :: ⟨(some 196), (.p (.pick (.t 192) (.t 195) (.c (.bool false)))), none⟩ :: t66_18)
def t66_3 : List AIns := (⟨(some 53), (.p (.mv (.t 52))), none⟩ :: ⟨(some 54), (.p (.foff 4 (.t 1))), (some (53, true))⟩ :: ⟨(some 55), (.r (.load 1 false (.t 54))), (some (53, true))⟩ :: ⟨(some 56), (.p (.bin .geq (.t 55) (.c (.int .i64 1)))), (some (53, true))⟩ :: ⟨(some 57), (.p (.pick (.t 53) (.t 56) (.c (.bool false)))), none⟩ :: t66_4)
def t66_11 : List AIns := (⟨(some 135), (.p (.mv (.t 134))), none⟩ :: ⟨(some 136), (.p (.foff 3 (.t 1))), (some (135, true))⟩ :: ⟨(some 137), (.r (.load 1 false (.t 136))), (some (135, true))⟩ :: ⟨(some 138), (.p (.bin .lss (.t 137) (.c (.int .i64 8)))), (some (135, true))⟩ :: ⟨(some 139), (.p (.pick (.t 135) (.t 138) (.c (.bool false)))), none⟩ :: t66_12)
def t66_2 : List AIns := (⟨(some 48), (.p (.mv (.t 47))), none⟩ :: ⟨(some 49), (.p (.foff 3 (.t 1))), (some (48, true))⟩ :: ⟨(some 50), (.r (.load 1 false (.t 49))), (some (48, true))⟩ :: ⟨(some 51), (.p (.bin .lss (.t 50) (.c (.int .i64 8)))), (some (48, true))⟩ :: ⟨(some 52), (.p (.pick (.t 48) (.t 51) (.c (.bool false)))), none⟩ :: t66_3)
def t66_10 : List AIns := (⟨(some 130), (.p (.mv (.t 129))), none⟩ :: ⟨(some 131), (.p (.foff 3 (.t 1))), (some (130, true))⟩ :: ⟨(some 132), (.r (.load 1 false (.t 131))), (some (130, true))⟩ :: ⟨(some 133), (.p (.bin .geq (.t 132) (.c (.int .i64 (-1))))), (some (130, true))⟩ :: ⟨(some 134), (.p (.pick (.t 130) (.t 133) (.c (.bool false)))), none⟩ :: t66_11)
def t66_1 : List AIns := (⟨(some 43), (.p (.mv (.t 42))), none⟩ :: ⟨(some 44), (.p (.foff 3 (.t 1))), (some (43, true))⟩ :: ⟨(some 45), (.r (.load 1 false (.t 44))), (some (43, true))⟩ :: ⟨(some 46), (.p (.bin .geq (.t 45) (.c (.int .i64 0)))), (some (43, true))⟩ :: ⟨(some 47), (.p (.pick (.t 43) (.t 46) (.c (.bool false)))), none⟩ :: t66_2)
def t66_0 : List AIns := (⟨(some 38), (.p (.mv (.t 37))), none⟩ :: ⟨(some 39), (.p (.foff 2 (.t 1))), (some (38, true))⟩ :: ⟨(some 40), (.r (.load 1 false (.t 39))), (some (38, true))⟩ :: ⟨(some 41), (.p (.bin .lss (.t 40) (.c (.int .i64 8)))), (some (38, true))⟩ :: ⟨(some 42), (.p (.pick (.t 38) (.t 41) (.c (.bool false)))), none⟩ :: t66_1)
def k66_0 : ACode := (.region (⟨(some 5), (.p (.foff 0 (.t 1))), none⟩ :: ⟨(some 6), (.r (.load 1 false (.t 5))), none⟩ :: ⟨(some 7), (.p (.build [(.int .i64 0), (.int .i64 0), (.int .i64 0), (.int .i64 0), (.int .i64 0), (.int .i64 0), (.int .i64 0), (.int .i64 0), (.int .i64 0), (.int .i64 0), (.bool false), (.int .i64 0), (.int .i64 0)] [(0, (1, (.t 6)))])), none⟩ :: ⟨(some 3), (.a (.alloc [(.int .i64 0), (.int .i64 0), (.int .i64 0), (.int .i64 0), (.int .i64 0), (.int .i64 0), (.int .i64 0), (.int .i64 0), (.int .i64 0), (.int .i64 0), (.bool false), (.int .i64 0), (.int .i64 0)])), none⟩ :: ⟨none, (.w (.store 13 (.t 3) (.t 7))), none⟩ :: []))
def k66_1 : ACode := (.region (⟨(some 12), (.p (.foff 1 (.t 1))), none⟩ :: ⟨(some 13), (.r (.load 1 false (.t 12))), none⟩ :: ⟨(some 14), (.p (.foff 1 (.t 3))), none⟩ :: ⟨none, (.w (.store 1 (.t 14) (.t 13))), none⟩ :: []))
def k66_2 : ACode := (.region (⟨(some 15), (.p (.foff 2 (.t 1))), none⟩ :: ⟨(some 16), (.r (.load 1 false (.t 15))), none⟩ :: ⟨(some 17), (.p (.foff 2 (.t 3))), none⟩ :: ⟨none, (.w (.store 1 (.t 17) (.t 16))), none⟩ :: []))
def k66_3 : ACode := (.region (⟨(some 18), (.p (.foff 3 (.t 1))), none⟩ :: ⟨(some 19), (.r (.load 1 false (.t 18))), none⟩ :: ⟨(some 20), (.p (.foff 3 (.t 3))), none⟩ :: ⟨none, (.w (.store 1 (.t 20) (.t 19))), none⟩ :: []))
def k66_4 : ACode := (.region (⟨(some 21), (.p (.foff 4 (.t 1))), none⟩ :: ⟨(some 22), (.r (.load 1 false (.t 21))), none⟩ :: ⟨(some 23), (.p (.foff 4 (.t 3))), none⟩ :: ⟨none, (.w (.store 1 (.t 23) (.t 22))), none⟩ :: []))
def k66_5 : ACode := (.region (⟨(some 24), (.p (.foff 5 (.t 1))), none⟩ :: ⟨(some 25), (.r (.load 1 false (.t 24))), none⟩ :: ⟨(some 26), (.p (.foff 5 (.t 3))), none⟩ :: ⟨none, (.w (.store 1 (.t 26) (.t 25))), none⟩ :: []))
def k66_6 : ACode := (.region (⟨(some 27), (.p (.foff 6 (.t 1))), none⟩ :: ⟨(some 28), (.r (.load 1 false (.t 27))), none⟩ :: ⟨(some 29), (.p (.foff 6 (.t 3))), none⟩ :: ⟨none, (.w (.store 1 (.t 29) (.t 28))), none⟩ :: []))
def k66_7 : ACode := (.region (⟨(some 30), (.p (.foff 1 (.t 1))), none⟩ :: ⟨(some 31), (.r (.load 1 false (.t 30))), none⟩ :: ⟨(some 32), (.r (.call 84 [(.t 31)])), none⟩ :: ⟨(some 33), (.p (.mv (.t 32))), none⟩ :: ⟨(some 34), (.p (.foff 2 (.t 1))), (some (33, true))⟩ :: ⟨(some 35), (.r (.load 1 false (.t 34))), (some (33, true))⟩ :: ⟨(some 36), (.p (.bin .geq (.t 35) (.c (.int .i64 0)))), (some (33, true))⟩ :: ⟨(some 37), (.p (.pick (.t 33) (.t 36) (.c (.bool false)))), none⟩ :: t66_0))
def k66_8 : ACode := (.seq k66_6 k66_7)
def k66_9 : ACode := (.seq k66_5 k66_8)
def k66_10 : ACode := (.seq k66_4 k66_9)
def k66_11 : ACode := (.seq k66_3 k66_10)
def k66_12 : ACode := (.seq k66_2 k66_11)
def k66_13 : ACode := (.seq k66_1 k66_12)
def k66_14 : ACode := (.region (⟨(some 75), (.p (.foff 1 (.t 1))), none⟩ :: ⟨(some 76), (.r (.load 1 false (.t 75))), none⟩ :: ⟨(some 77), (.p (.foff 1 (.t 3))), none⟩ :: ⟨none, (.w (.store 1 (.t 77) (.t 76))), none⟩ :: []))
def k66_15 : ACode := (.region (⟨(some 78), (.p (.foff 5 (.t 1))), none⟩ :: ⟨(some 79), (.r (.load 1 false (.t 78))), none⟩ :: ⟨(some 80), (.p (.foff 5 (.t 3))), none⟩ :: ⟨none, (.w (.store 1 (.t 80) (.t 79))), none⟩ :: []))
def k66_16 : ACode := (.region (⟨(some 81), (.p (.foff 6 (.t 1))), none⟩ :: ⟨(some 82), (.r (.load 1 false (.t 81))), none⟩ :: ⟨(some 83), (.p (.foff 6 (.t 3))), none⟩ :: ⟨none, (.w (.store 1 (.t 83) (.t 82))), none⟩ :: []))
def k66_17 : ACode := (.region (⟨(some 84), (.p (.foff 1 (.t 1))), none⟩ :: ⟨(some 85), (.r (.load 1 false (.t 84))), none⟩ :: ⟨(some 86), (.r (.call 84 [(.t 85)])), none⟩ :: ⟨(some 87), (.p (.mv (.t 86))), none⟩ :: ⟨(some 88), (.p (.foff 5 (.t 1))), (some (87, true))⟩ :: ⟨(some 89), (.r (.load 1 false (.t 88))), (some (87, true))⟩ :: ⟨(some 90), (.p (.bin .gtr (.t 89) (.c (.int .i64 0)))), (some (87, true))⟩ :: ⟨(some 91), (.p (.pick (.t 87) (.t 90) (.c (.bool false)))), none⟩ :: t66_8))
def k66_18 : ACode := (.seq k66_16 k66_17)
def k66_19 : ACode := (.seq k66_15 k66_18)
def k66_20 : ACode := (.seq k66_14 k66_19)
def k66_21 : ACode := (.region (⟨(some 99), (.p (.foff 1 (.t 1))), none⟩ :: ⟨(some 100), (.r (.load 1 false (.t 99))), none⟩ :: ⟨(some 101), (.p (.foff 1 (.t 3))), none⟩ :: ⟨none, (.w (.store 1 (.t 101) (.t 100))), none⟩ :: []))
def k66_22 : ACode := (.region (⟨(some 102), (.p (.foff 1 (.t 1))), none⟩ :: ⟨(some 103), (.r (.load 1 false (.t 102))), none⟩ :: ⟨(some 104), (.r (.call 84 [(.t 103)])), none⟩ :: ⟨(some 4), (.p (.mv (.t 104))), none⟩ :: []))
def k66_23 : ACode := (.seq k66_21 k66_22)
def k66_24 : ACode := (.region (⟨(some 107), (.p (.foff 2 (.t 1))), none⟩ :: ⟨(some 108), (.r (.load 1 false (.t 107))), none⟩ :: ⟨(some 109), (.p (.foff 2 (.t 3))), none⟩ :: ⟨none, (.w (.store 1 (.t 109) (.t 108))), none⟩ :: []))
def k66_25 : ACode := (.region (⟨(some 110), (.p (.foff 3 (.t 1))), none⟩ :: ⟨(some 111), (.r (.load 1 false (.t 110))), none⟩ :: ⟨(some 112), (.p (.foff 3 (.t 3))), none⟩ :: ⟨none, (.w (.store 1 (.t 112) (.t 111))), none⟩ :: []))
def k66_26 : ACode := (.region (⟨(some 113), (.p (.foff 7 (.t 1))), none⟩ :: ⟨(some 114), (.r (.load 1 false (.t 113))), none⟩ :: ⟨(some 115), (.p (.foff 7 (.t 3))), none⟩ :: ⟨none, (.w (.store 1 (.t 115) (.t 114))), none⟩ :: []))
def k66_27 : ACode := (.region (⟨(some 116), (.p (.foff 8 (.t 1))), none⟩ :: ⟨(some 117), (.r (.load 1 false (.t 116))), none⟩ :: ⟨(some 118), (.p (.foff 8 (.t 3))), none⟩ :: ⟨none, (.w (.store 1 (.t 118) (.t 117))), none⟩ :: []))
def k66_28 : ACode := (.region (⟨(some 119), (.p (.foff 9 (.t 1))), none⟩ :: ⟨(some 120), (.r (.load 1 false (.t 119))), none⟩ :: ⟨(some 121), (.p (.foff 9 (.t 3))), none⟩ :: ⟨none, (.w (.store 1 (.t 121) (.t 120))), none⟩ :: []))
def k66_29 : ACode := (.region (⟨(some 122), (.p (.foff 2 (.t 1))), none⟩ :: ⟨(some 123), (.r (.load 1 false (.t 122))), none⟩ :: ⟨(some 124), (.p (.bin .geq (.t 123) (.c (.int .i64 0)))), none⟩ :: ⟨(some 125), (.p (.mv (.t 124))), none⟩ :: ⟨(some 126), (.p (.foff 2 (.t 1))), (some (125, true))⟩ :: ⟨(some 127), (.r (.load 1 false (.t 126))), (some (125, true))⟩ :: ⟨(some 128), (.p (.bin .lss (.t 127) (.c (.int .i64 8)))), (some (125, true))⟩ :: ⟨(some 129), (.p (.pick (.t 125) (.t 128) (.c (.bool false)))), none⟩ :: t66_10))
def k66_30 : ACode := (.region (⟨(some 155), (.p (.foff 3 (.t 1))), none⟩ :: ⟨(some 156), (.r (.load 1 false (.t 155))), none⟩ :: ⟨(some 157), (.p (.bin .eql (.t 156) (.c (.int .i64 (-1))))), none⟩ :: ⟨(some 158), (.p (.mv (.t 157))), none⟩ :: ⟨(some 159), (.p (.foff 7 (.t 1))), (some (158, true))⟩ :: ⟨(some 160), (.r (.load 1 false (.t 159))), (some (158, true))⟩ :: ⟨(some 161), (.p (.bin .neq (.t 160) (.c (.int .i64 0)))), (some (158, true))⟩ :: ⟨(some 162), (.p (.mv (.t 161))), (some (158, true))⟩ :: ⟨(some 163), (.p (.foff 8 (.t 1))), (some (162, false))⟩ :: ⟨(some 164), (.r (.load 1 false (.t 163))), (some (162, false))⟩ :: ⟨(some 165), (.p (.bin .neq (.t 164) (.c (.int .i64 0)))), (some (162, false))⟩ :: ⟨(some 166), (.p (.pick (.t 162) (.c (.bool true)) (.t 165))), (some (158, true))⟩ :: t66_16))
def k66_31 : ACode := (.seq k66_30 (.cond (.t 167) (.region (⟨(some 4), (.p (.mv (.c (.bool false)))), none⟩ :: [])) .skip))
def k66_32 : ACode := (.seq k66_29 k66_31)
def k66_33 : ACode := (.seq k66_28 k66_32)
def k66_34 : ACode := (.seq k66_27 k66_33)
def k66_35 : ACode := (.seq k66_26 k66_34)
def k66_36 : ACode := (.seq k66_25 k66_35)
def k66_37 : ACode := (.seq k66_24 k66_36)
def k66_38 : ACode := (.region (⟨(some 170), (.p (.foff 10 (.t 1))), none⟩ :: ⟨(some 171), (.r (.load 1 false (.t 170))), none⟩ :: ⟨(some 172), (.p (.foff 10 (.t 3))), none⟩ :: ⟨none, (.w (.store 1 (.t 172) (.t 171))), none⟩ :: []))
def k66_39 : ACode := (.seq k66_38 (.region (⟨(some 4), (.p (.mv (.c (.bool true)))), none⟩ :: [])))
def k66_40 : ACode := (.region (⟨(some 175), (.p (.foff 11 (.t 1))), none⟩ :: ⟨(some 176), (.r (.load 1 false (.t 175))), none⟩ :: ⟨(some 177), (.p (.foff 11 (.t 3))), none⟩ :: ⟨none, (.w (.store 1 (.t 177) (.t 176))), none⟩ :: []))
def k66_41 : ACode := (.region (⟨(some 178), (.p (.foff 12 (.t 1))), none⟩ :: ⟨(some 179), (.r (.load 1 false (.t 178))), none⟩ :: ⟨(some 180), (.p (.foff 12 (.t 3))), none⟩ :: ⟨none, (.w (.store 1 (.t 180) (.t 179))), none⟩ :: []))
def k66_42 : ACode := (.region (⟨(some 181), (.p (.foff 1 (.t 1))), none⟩ :: ⟨(some 182), (.r (.load 1 false (.t 181))), none⟩ :: ⟨(some 183), (.p (.foff 1 (.t 3))), none⟩ :: ⟨none, (.w (.store 1 (.t 183) (.t 182))), none⟩ :: []))
def k66_43 : ACode := (.region (⟨(some 184), (.p (.foff 11 (.t 1))), none⟩ :: ⟨(some 185), (.r (.load 1 false (.t 184))), none⟩ :: ⟨(some 186), (.p (.bin .gtr (.t 185) (.c (.int .i64 0)))), none⟩ :: ⟨(some 187), (.p (.mv (.t 186))), none⟩ :: ⟨(some 188), (.p (.foff 11 (.t 1))), (some (187, true))⟩ :: ⟨(some 189), (.r (.load 1 false (.t 188))), (some (187, true))⟩ :: ⟨(some 190), (.p (.bin .leq (.t 189) (.c (.int .i64 1000000000)))), (some (187, true))⟩ :: ⟨(some 191), (.p (.pick (.t 187) (.t 190) (.c (.bool false)))), none⟩ :: t66_17))
def k66_44 : ACode := (.region (⟨(some 207), (.p (.foff 12 (.t 1))), none⟩ :: ⟨(some 208), (.r (.load 1 false (.t 207))), none⟩ :: ⟨(some 209), (.p (.bin .eql (.t 208) (.c (.int .i64 3)))), none⟩ :: ⟨(some 210), (.p (.mv (.t 209))), none⟩ :: ⟨(some 211), (.p (.foff 12 (.t 1))), (some (210, false))⟩ :: ⟨(some 212), (.r (.load 1 false (.t 211))), (some (210, false))⟩ :: ⟨(some 213), (.p (.bin .eql (.t 212) (.c (.int .i64 5)))), (some (210, false))⟩ :: ⟨(some 214), (.p (.pick (.t 210) (.c (.bool true)) (.t 213))), none⟩ :: []))
def k66_45 : ACode := (.region (⟨(some 215), (.p (.foff 5 (.t 1))), none⟩ :: ⟨(some 216), (.r (.load 1 false (.t 215))), none⟩ :: ⟨(some 217), (.p (.foff 5 (.t 3))), none⟩ :: ⟨none, (.w (.store 1 (.t 217) (.t 216))), none⟩ :: []))
def k66_46 : ACode := (.region (⟨(some 218), (.p (.mv (.t 4))), none⟩ :: ⟨(some 219), (.p (.mv (.t 218))), none⟩ :: ⟨(some 220), (.p (.foff 5 (.t 1))), (some (219, true))⟩ :: ⟨(some 221), (.r (.load 1 false (.t 220))), (some (219, true))⟩ :: ⟨(some 222), (.p (.bin .gtr (.t 221) (.c (.int .i64 0)))), (some (219, true))⟩ :: ⟨(some 223), (.p (.pick (.t 219) (.t 222) (.c (.bool false)))), none⟩ :: t66_21))
def k66_47 : ACode := (.seq k66_45 k66_46)
def k66_48 : ACode := (.cond (.t 214) k66_47 .skip)
def k66_49 : ACode := (.seq k66_44 k66_48)
def k66_50 : ACode := (.region (⟨(some 227), (.p (.foff 6 (.t 1))), none⟩ :: ⟨(some 228), (.r (.load 1 false (.t 227))), none⟩ :: ⟨(some 229), (.p (.foff 6 (.t 3))), none⟩ :: ⟨none, (.w (.store 1 (.t 229) (.t 228))), none⟩ :: []))
def k66_51 : ACode := (.region (⟨(some 230), (.p (.mv (.t 4))), none⟩ :: ⟨(some 231), (.p (.mv (.t 230))), none⟩ :: ⟨(some 232), (.p (.foff 6 (.t 1))), (some (231, true))⟩ :: ⟨(some 233), (.r (.load 1 false (.t 232))), (some (231, true))⟩ :: ⟨(some 234), (.p (.bin .gtr (.t 233) (.c (.int .i64 0)))), (some (231, true))⟩ :: ⟨(some 235), (.p (.pick (.t 231) (.t 234) (.c (.bool false)))), none⟩ :: t66_22))
def k66_52 : ACode := (.seq k66_50 k66_51)
def k66_53 : ACode := (.cond (.t 226) k66_52 .skip)
def k66_54 : ACode := (.seq (.region (⟨(some 224), (.p (.foff 12 (.t 1))), none⟩ :: ⟨(some 225), (.r (.load 1 false (.t 224))), none⟩ :: ⟨(some 226), (.p (.bin .eql (.t 225) (.c (.int .i64 5)))), none⟩ :: [])) k66_53)
def k66_55 : ACode := (.seq k66_49 k66_54)
def k66_56 : ACode := (.seq k66_43 k66_55)
def k66_57 : ACode := (.seq k66_42 k66_56)
def k66_58 : ACode := (.seq k66_41 k66_57)
def k66_59 : ACode := (.seq k66_40 k66_58)
def k66_60 : ACode := (.cond (.t 173) k66_59 .skip)
def k66_61 : ACode := (.seq (.region (⟨(some 174), (.p (.bin .eql (.t 9) (.c (.int .i64 6)))), none⟩ :: ⟨(some 173), (.p (.mv (.t 174))), none⟩ :: [])) k66_60)
def k66_62 : ACode := (.cond (.t 168) k66_39 k66_61)
def k66_63 : ACode := (.seq (.region (⟨(some 169), (.p (.bin .eql (.t 9) (.c (.int .i64 5)))), none⟩ :: ⟨(some 168), (.p (.mv (.t 169))), none⟩ :: [])) k66_62)
def k66_64 : ACode := (.cond (.t 105) k66_37 k66_63)
def k66_65 : ACode := (.seq (.region (⟨(some 106), (.p (.bin .eql (.t 9) (.c (.int .i64 4)))), none⟩ :: ⟨(some 105), (.p (.mv (.t 106))), none⟩ :: [])) k66_64)
def k66_66 : ACode := (.cond (.t 97) k66_23 k66_65)
def k66_67 : ACode := (.seq (.region (⟨(some 98), (.p (.bin .eql (.t 9) (.c (.int .i64 3)))), none⟩ :: ⟨(some 97), (.p (.mv (.t 98))), none⟩ :: [])) k66_66)
def k66_68 : ACode := (.cond (.t 73) k66_20 k66_67)
def k66_69 : ACode := (.seq (.region (⟨(some 74), (.p (.bin .eql (.t 9) (.c (.int .i64 2)))), none⟩ :: ⟨(some 73), (.p (.mv (.t 74))), none⟩ :: [])) k66_68)
def k66_70 : ACode := (.cond (.t 10) k66_13 k66_69)
def k66_71 : ACode := (.seq (.region (⟨(some 11), (.p (.bin .eql (.t 9) (.c (.int .i64 1)))), none⟩ :: ⟨(some 10), (.p (.mv (.t 11))), none⟩ :: [])) k66_70)
def k66_72 : ACode := (.block 0 k66_71)
def k66_73 : ACode := (.seq (.region (⟨(some 8), (.p (.foff 0 (.t 1))), none⟩ :: ⟨(some 9), (.r (.load 1 false (.t 8))), none⟩ :: [])) k66_72)
def k66_74 : ACode := (.region (⟨(some 236), (.p (.mv (.t 4))), none⟩ :: ⟨(some 237), (.p (.mv (.t 236))), none⟩ :: ⟨(some 238), (.r (.load 13 true (.t 1))), (some (237, true))⟩ :: ⟨(some 239), (.r (.load 13 true (.t 3))), (some (237, true))⟩ :: ⟨(some 240), (.p (.eqs [1, 1, 1, 1, 1, 1, 1, 1, 1, 1, 0, 1, 1] false (.t 238) (.t 239))), (some (237, true))⟩ :: ⟨(some 241), (.p (.pick (.t 237) (.t 240) (.c (.bool false)))), none⟩ :: t66_23))
def k66_75 : ACode := (.seq k66_74 .ret)
def k66_76 : ACode := (.seq k66_73 k66_75)
def k66_77 : ACode := (.seq (.region (⟨(some 4), (.p (.mv (.c (.bool false)))), none⟩ :: [])) k66_76)
def k66_78 : ACode := (.seq k66_0 k66_77)
def cd66 : ACode := (.seq (.region (⟨(some 1), (.a (.bx (.t 0))), none⟩ :: ⟨(some 2), (.p (.mv (.c (.bool false)))), none⟩ :: [])) k66_78)
def rs66 : List ARes := [(.tmp 2)]
def af66 : AFn := ⟨cd66, rs66, 242⟩
theorem c66 : compF Try.prog 66 = some af66 := by kernel_rfl
noncomputable def g_snaffleref06_Right (p_r : RecT) : Option Bool := (Option.bind ((bif (p_r.Kind == 1) then (Option.bind (g_snaffleref06_id p_r.Order) fun v3 => (some (((((((((v3 && (decide (p_r.Account ≥ 0))) && (decide (p_r.Account < 8))) && (decide (p_r.Symbol ≥ 0))) && (decide (p_r.Symbol < 8))) && (decide (p_r.Side ≥ 1))) && (decide (p_r.Side ≤ 2))) && (decide (p_r.Qty > 0))) && (decide (p_r.Price > 0))), p_r.Order, p_r.Account, p_r.Symbol, p_r.Side, p_r.Qty, p_r.Price, 0, 0, 0, false, 0, 0))) else (Option.bind ((bif (p_r.Kind == 2) then (Option.bind (g_snaffleref06_id p_r.Order) fun v30 => (some (((v30 && (decide (p_r.Qty > 0))) && (decide (p_r.Price > 0))), p_r.Order, 0, 0, p_r.Qty, p_r.Price, 0, 0, 0, false, 0, 0))) else (Option.bind ((bif (p_r.Kind == 3) then (Option.bind (g_snaffleref06_id p_r.Order) fun v39 => (some (v39, p_r.Order, 0, 0, 0, 0, 0, 0, 0, false, 0, 0))) else (Option.bind ((bif (p_r.Kind == 4) then (Option.bind ((bif ((p_r.Symbol == (-1)) && ((p_r.Long != 0) || (p_r.Short != 0))) then (some false) else (some (((((((decide (p_r.Account ≥ 0)) && (decide (p_r.Account < 8))) && (decide (p_r.Symbol ≥ (-1)))) && (decide (p_r.Symbol < 8))) && (decide (p_r.Long ≥ 0))) && (decide (p_r.Short ≥ 0))) && (decide (p_r.Open ≥ 0))))) : Option (Bool)) (fun (j63 : Bool) => (some (j63, 0, p_r.Account, p_r.Symbol, 0, 0, p_r.Long, p_r.Short, p_r.Open, false, 0, 0)))) else (Option.bind ((bif (p_r.Kind == 5) then (some (true, 0, 0, 0, p_r.On, 0, 0)) else (Option.bind ((bif (p_r.Kind == 6) then (Option.bind (bif ((((decide (p_r.Seq > 0)) && (decide (p_r.Seq ≤ 1000000000))) && (decide (p_r.What ≥ 1))) && (decide (p_r.What ≤ 6))) then (Option.bind (g_snaffleref06_id p_r.Order) fun v97 => (some v97)) else (some false)) fun (b82 : Bool) => (Option.bind ((bif ((p_r.What == 3) || (p_r.What == 5)) then (some ((b82 && (decide (p_r.Qty > 0))), p_r.Qty)) else (some (b82, 0))) : Option (Bool × Int)) (fun (j87 : Bool × Int) => (Option.bind ((bif (p_r.What == 5) then (some ((j87.1 && (decide (p_r.Price > 0))), p_r.Price)) else (some (j87.1, 0))) : Option (Bool × Int)) (fun (j92 : Bool × Int) => (some (j92.1, p_r.Order, j87.2, j92.2, p_r.Seq, p_r.What))))))) else (some (false, 0, 0, 0, 0, 0))) : Option (Bool × Int × Int × Int × Int × Int)) (fun (j70 : Bool × Int × Int × Int × Int × Int) => (some (j70.1, j70.2.1, j70.2.2.1, j70.2.2.2.1, false, j70.2.2.2.2.1, j70.2.2.2.2.2))))) : Option (Bool × Int × Int × Int × Bool × Int × Int)) (fun (j68 : Bool × Int × Int × Int × Bool × Int × Int) => (some (j68.1, j68.2.1, 0, 0, j68.2.2.1, j68.2.2.2.1, 0, 0, 0, j68.2.2.2.2.1, j68.2.2.2.2.2.1, j68.2.2.2.2.2.2))))) : Option (Bool × Int × Int × Int × Int × Int × Int × Int × Int × Bool × Int × Int)) (fun (j40 : Bool × Int × Int × Int × Int × Int × Int × Int × Int × Bool × Int × Int) => (some (j40.1, j40.2.1, j40.2.2.1, j40.2.2.2.1, j40.2.2.2.2.1, j40.2.2.2.2.2.1, j40.2.2.2.2.2.2.1, j40.2.2.2.2.2.2.2.1, j40.2.2.2.2.2.2.2.2.1, j40.2.2.2.2.2.2.2.2.2.1, j40.2.2.2.2.2.2.2.2.2.2.1, j40.2.2.2.2.2.2.2.2.2.2.2))))) : Option (Bool × Int × Int × Int × Int × Int × Int × Int × Int × Bool × Int × Int)) (fun (j37 : Bool × Int × Int × Int × Int × Int × Int × Int × Int × Bool × Int × Int) => (some (j37.1, j37.2.1, j37.2.2.1, j37.2.2.2.1, j37.2.2.2.2.1, j37.2.2.2.2.2.1, j37.2.2.2.2.2.2.1, j37.2.2.2.2.2.2.2.1, j37.2.2.2.2.2.2.2.2.1, j37.2.2.2.2.2.2.2.2.2.1, j37.2.2.2.2.2.2.2.2.2.2.1, j37.2.2.2.2.2.2.2.2.2.2.2))))) : Option (Bool × Int × Int × Int × Int × Int × Int × Int × Int × Bool × Int × Int)) (fun (j28 : Bool × Int × Int × Int × Int × Int × Int × Int × Int × Bool × Int × Int) => (some (j28.1, j28.2.1, j28.2.2.1, j28.2.2.2.1, 0, j28.2.2.2.2.1, j28.2.2.2.2.2.1, j28.2.2.2.2.2.2.1, j28.2.2.2.2.2.2.2.1, j28.2.2.2.2.2.2.2.2.1, j28.2.2.2.2.2.2.2.2.2.1, j28.2.2.2.2.2.2.2.2.2.2.1, j28.2.2.2.2.2.2.2.2.2.2.2))))) : Option (Bool × Int × Int × Int × Int × Int × Int × Int × Int × Int × Bool × Int × Int)) (fun (j1 : Bool × Int × Int × Int × Int × Int × Int × Int × Int × Int × Bool × Int × Int) => (some (j1.1 && ((p_r.Kind == p_r.Kind) && ((p_r.Order == j1.2.1) && ((p_r.Account == j1.2.2.1) && ((p_r.Symbol == j1.2.2.2.1) && ((p_r.Side == j1.2.2.2.2.1) && ((p_r.Qty == j1.2.2.2.2.2.1) && ((p_r.Price == j1.2.2.2.2.2.2.1) && ((p_r.Long == j1.2.2.2.2.2.2.2.1) && ((p_r.Short == j1.2.2.2.2.2.2.2.2.1) && ((p_r.Open == j1.2.2.2.2.2.2.2.2.2.1) && ((p_r.On == j1.2.2.2.2.2.2.2.2.2.2.1) && ((p_r.Seq == j1.2.2.2.2.2.2.2.2.2.2.2.1) && ((p_r.What == j1.2.2.2.2.2.2.2.2.2.2.2.2) && true)))))))))))))))))
noncomputable def sp66 : List DV → Option DV := specT (fun (a : RecT) => [.agg (e_RecT a)]) (fun (r : Bool) => .bool r) (fun (a : RecT) => g_snaffleref06_Right a)
theorem inj66 : ∀ (a b : RecT), List.map z1 ((fun (a : RecT) => [.agg (e_RecT a)]) a) = List.map z1 ((fun (a : RecT) => [.agg (e_RecT a)]) b) → a = b := by
 intro a0 b0 h
 simp only [List.map_cons, List.map_nil, List.cons.injEq, and_true] at h
 exact (e_RecT_inj (DV.agg.inj h))
set_option maxHeartbeats 1000000 in
theorem w66 {C : FuncId → Con} (hC : ConOk Try.prog C) {q84 : List DV → Option DV} (hc84 : C 84 = .val q84) (hs84 : ∀ (x0 : Int) (ds : List DV), List.map z1 ds = List.map z1 [.int .i64 x0] → q84 ds = (g_snaffleref06_id x0).map fun r => .bool r) : ValOk Try.prog 66 sp66 := by
 refine valT_of hC c66 _ _ _ inj66 ?_
 intro p_r
 show Imq (g_snaffleref06_Right p_r) (fun _ => True) fun r => WP Try.prog C (fun _ => False) cd66 (retQ fun s => outV s rs66 = some (.bool r)) ⟨⟨242, [(0, (.val (.agg [(.int .i64 p_r.Kind), (.int .i64 p_r.Order), (.int .i64 p_r.Account), (.int .i64 p_r.Symbol), (.int .i64 p_r.Side), (.int .i64 p_r.Qty), (.int .i64 p_r.Price), (.int .i64 p_r.Long), (.int .i64 p_r.Short), (.int .i64 p_r.Open), (.bool p_r.On), (.int .i64 p_r.Seq), (.int .i64 p_r.What)])))]⟩, mkH []⟩
 unfold g_snaffleref06_Right
 refine G_seq ?_
 refine G_region ?_
 refine G_op [1001] (v := (.box [1001] 0)) (E_a (u := (.box [1001] 0)) (b := (.box (lRecT p_r))) (h' := [([1001], (.box (lRecT p_r)))]) (by kernel_rfl) (by kernel_rfl) (by kernel_rfl)) rfl rfl ?_
 refine G_op [0] (v := (bb false)) (E_p (by kernel_rfl)) rfl rfl ?_
 refine G_nil ?_
 refine G_then ?_
 refine G_seq ?_
 refine G_region ?_
 refine G_op [0] (v := (.box [1001] 0)) (E_p (by kernel_rfl)) rfl rfl ?_
 refine G_op [0] (v := (ii p_r.Kind)) (E_load (by kernel_rfl)) rfl rfl ?_
 refine G_op [0] (v := (.agg [(ii p_r.Kind), (ii 0), (ii 0), (ii 0), (ii 0), (ii 0), (ii 0), (ii 0), (ii 0), (ii 0), (bb false), (ii 0), (ii 0)])) (E_p (by kernel_rfl)) rfl rfl ?_
 refine G_op [1002] (v := (.box [1002] 0)) (E_a (u := (.box [1002] 0)) (b := (.box zRecT)) (h' := [([1001], (.box (lRecT p_r))), ([1002], (.box zRecT))]) (by kernel_rfl) (by kernel_rfl) (by kernel_rfl)) rfl rfl ?_
 refine G_op0 [0] (v := (.val (.tup []))) (E_store (b := [1002]) (o := 0) (cs := [(ii p_r.Kind), (ii 0), (ii 0), (ii 0), (ii 0), (ii 0), (ii 0), (ii 0), (ii 0), (ii 0), (bb false), (ii 0), (ii 0)]) (cells := zRecT) (cells' := [(ii p_r.Kind), (ii 0), (ii 0), (ii 0), (ii 0), (ii 0), (ii 0), (ii 0), (ii 0), (ii 0), (bb false), (ii 0), (ii 0)]) (h' := [([1001], (.box (lRecT p_r))), ([1002], (.box [(ii p_r.Kind), (ii 0), (ii 0), (ii 0), (ii 0), (ii 0), (ii 0), (ii 0), (ii 0), (ii 0), (bb false), (ii 0), (ii 0)]))]) (by kernel_rfl) (by kernel_rfl) (by kernel_rfl) rfl (by kernel_rfl) (by kernel_rfl) (by kernel_rfl) (by kernel_rfl)) rfl ?_
 refine G_nil ?_
 refine G_then ?_
 refine G_seq ?_
 refine G_region ?_
 refine G_op [0] (v := (bb false)) (E_p (by kernel_rfl)) rfl rfl ?_
 refine G_nil ?_
 refine G_then ?_
 refine G_seq ?_
 refine G_seq ?_
 refine G_region ?_
 refine G_op [0] (v := (.box [1001] 0)) (E_p (by kernel_rfl)) rfl rfl ?_
 refine G_op [0] (v := (ii p_r.Kind)) (E_load (by kernel_rfl)) rfl rfl ?_
 refine G_nil ?_
 refine G_then ?_
 refine G_block ?_
 refine G_seq ?_
 refine G_region ?_
 refine G_op [0] (v := (bb ((p_r.Kind == 1)))) (E_p (by kernel_rfl)) rfl rfl ?_
 refine G_op [0] (v := (bb ((p_r.Kind == 1)))) (E_p (by kernel_rfl)) rfl rfl ?_
 refine G_nil ?_
 refine G_then ?_
 refine G_join (st := fun j1 => ⟨⟨242, [(4, (bb j1.1)), (3, (.box [1002] 0)), (2, (bb false)), (1, (.box [1001] 0))]⟩, mkH [([1001], (.box (lRecT p_r))), ([1002], (.box [(ii p_r.Kind), (ii j1.2.1), (ii j1.2.2.1), (ii j1.2.2.2.1), (ii j1.2.2.2.2.1), (ii j1.2.2.2.2.2.1), (ii j1.2.2.2.2.2.2.1), (ii j1.2.2.2.2.2.2.2.1), (ii j1.2.2.2.2.2.2.2.2.1), (ii j1.2.2.2.2.2.2.2.2.2.1), (bb j1.2.2.2.2.2.2.2.2.2.2.1), (ii j1.2.2.2.2.2.2.2.2.2.2.2.1), (ii j1.2.2.2.2.2.2.2.2.2.2.2.2)]))]⟩) (fun j1 => ?_) (fun r2 hr2 => ?_)
 ·refine G_inB ?_
  refine G_then ?_
  refine G_seq ?_
  refine G_region ?_
  refine G_op [0] (v := (bb j1.1)) (E_p (by kernel_rfl)) rfl rfl ?_
  refine G_op [0] (v := (bb j1.1)) (E_p (by kernel_rfl)) rfl rfl ?_
  refine G_pure (l := t66_23) (st := ⟨⟨242, [(241, (bb ((j1.1 && ((p_r.Kind == p_r.Kind) && ((p_r.Order == j1.2.1) && ((p_r.Account == j1.2.2.1) && ((p_r.Symbol == j1.2.2.2.1) && ((p_r.Side == j1.2.2.2.2.1) && ((p_r.Qty == j1.2.2.2.2.2.1) && ((p_r.Price == j1.2.2.2.2.2.2.1) && ((p_r.Long == j1.2.2.2.2.2.2.2.1) && ((p_r.Short == j1.2.2.2.2.2.2.2.2.1) && ((p_r.Open == j1.2.2.2.2.2.2.2.2.2.1) && ((p_r.On == j1.2.2.2.2.2.2.2.2.2.2.1) && ((p_r.Seq == j1.2.2.2.2.2.2.2.2.2.2.2.1) && ((p_r.What == j1.2.2.2.2.2.2.2.2.2.2.2.2) && true))))))))))))))))), (2, (bb false))]⟩, mkH []⟩) ?_ (fun r100 => ?_)
  ·refine G_op [0] (v := (bb ((j1.1 && ((p_r.Kind == p_r.Kind) && ((p_r.Order == j1.2.1) && ((p_r.Account == j1.2.2.1) && ((p_r.Symbol == j1.2.2.2.1) && ((p_r.Side == j1.2.2.2.2.1) && ((p_r.Qty == j1.2.2.2.2.2.1) && ((p_r.Price == j1.2.2.2.2.2.2.1) && ((p_r.Long == j1.2.2.2.2.2.2.2.1) && ((p_r.Short == j1.2.2.2.2.2.2.2.2.1) && ((p_r.Open == j1.2.2.2.2.2.2.2.2.2.1) && ((p_r.On == j1.2.2.2.2.2.2.2.2.2.2.1) && ((p_r.Seq == j1.2.2.2.2.2.2.2.2.2.2.2.1) && ((p_r.What == j1.2.2.2.2.2.2.2.2.2.2.2.2) && true))))))))))))))))) (E_p (by kernel_rfl)) rfl rfl ?_
   refine G_nil ?_
   refine G_then ?_
   refine G_ret ?_
   refine G_retR ?_
   refine q_some fun hA => ?_
   show outV _ _ = some _
   kernel_rfl
  ·refine q_two j1.1 (fun h98 => ?_) (fun h98 => ?_)
   ·refine G_subR (Sub_lit (t := 237) (v := true) rfl h98) ?_
    refine G_op [0] (v := (.agg (lRecT p_r))) (E_load (by kernel_rfl)) rfl rfl ?_
    refine G_op [0] (v := (.agg [(ii p_r.Kind), (ii j1.2.1), (ii j1.2.2.1), (ii j1.2.2.2.1), (ii j1.2.2.2.2.1), (ii j1.2.2.2.2.2.1), (ii j1.2.2.2.2.2.2.1), (ii j1.2.2.2.2.2.2.2.1), (ii j1.2.2.2.2.2.2.2.2.1), (ii j1.2.2.2.2.2.2.2.2.2.1), (bb j1.2.2.2.2.2.2.2.2.2.2.1), (ii j1.2.2.2.2.2.2.2.2.2.2.2.1), (ii j1.2.2.2.2.2.2.2.2.2.2.2.2)])) (E_load (by kernel_rfl)) rfl rfl ?_
    refine G_op [0] (v := (bb (((p_r.Kind == p_r.Kind) && ((p_r.Order == j1.2.1) && ((p_r.Account == j1.2.2.1) && ((p_r.Symbol == j1.2.2.2.1) && ((p_r.Side == j1.2.2.2.2.1) && ((p_r.Qty == j1.2.2.2.2.2.1) && ((p_r.Price == j1.2.2.2.2.2.2.1) && ((p_r.Long == j1.2.2.2.2.2.2.2.1) && ((p_r.Short == j1.2.2.2.2.2.2.2.2.1) && ((p_r.Open == j1.2.2.2.2.2.2.2.2.2.1) && ((p_r.On == j1.2.2.2.2.2.2.2.2.2.2.1) && ((p_r.Seq == j1.2.2.2.2.2.2.2.2.2.2.2.1) && ((p_r.What == j1.2.2.2.2.2.2.2.2.2.2.2.2) && true)))))))))))))))) (E_p (by kernel_rfl)) rfl rfl ?_
    refine G_op [0] (v := (bb (((p_r.Kind == p_r.Kind) && ((p_r.Order == j1.2.1) && ((p_r.Account == j1.2.2.1) && ((p_r.Symbol == j1.2.2.2.1) && ((p_r.Side == j1.2.2.2.2.1) && ((p_r.Qty == j1.2.2.2.2.2.1) && ((p_r.Price == j1.2.2.2.2.2.2.1) && ((p_r.Long == j1.2.2.2.2.2.2.2.1) && ((p_r.Short == j1.2.2.2.2.2.2.2.2.1) && ((p_r.Open == j1.2.2.2.2.2.2.2.2.2.1) && ((p_r.On == j1.2.2.2.2.2.2.2.2.2.2.1) && ((p_r.Seq == j1.2.2.2.2.2.2.2.2.2.2.2.1) && ((p_r.What == j1.2.2.2.2.2.2.2.2.2.2.2.2) && true)))))))))))))))) (E_p (by kernel_rfl)) rfl rfl ?_
    exact q_some fun h => RP_sub (by exact Sub_keep ⟨(Wk_and1 h98), .refl _, trivial⟩ trivial (by kernel_rfl) (by kernel_rfl)) h
   ·refine G_subR (Sub_lit (t := 237) (v := false) rfl h98) ?_
    refine G_off rfl rfl ?_
    refine G_off rfl rfl ?_
    refine G_off rfl rfl ?_
    refine G_op [0] (v := (bb false)) (E_p (by kernel_rfl)) rfl rfl ?_
    exact q_some fun h => RP_sub (by exact Sub_keep ⟨(Wk_and0 h98), .refl _, trivial⟩ trivial (by kernel_rfl) (by kernel_rfl)) h
 ·refine G_cond (t := (p_r.Kind == 1)) (by kernel_rfl) (fun _ => ?_) (fun _ => ?_)
  ·refine G_seq ?_
   refine G_region ?_
   refine G_op [0] (v := (.box [1001] 1)) (E_p (by kernel_rfl)) rfl rfl ?_
   refine G_op [0] (v := (ii p_r.Order)) (E_load (by kernel_rfl)) rfl rfl ?_
   refine G_op [0] (v := (.box [1002] 1)) (E_p (by kernel_rfl)) rfl rfl ?_
   refine G_op0 [0] (v := (.val (.tup []))) (E_store (b := [1002]) (o := 1) (cs := [(ii p_r.Order)]) (cells := [(ii p_r.Kind), (ii 0), (ii 0), (ii 0), (ii 0), (ii 0), (ii 0), (ii 0), (ii 0), (ii 0), (bb false), (ii 0), (ii 0)]) (cells' := [(ii p_r.Kind), (ii p_r.Order), (ii 0), (ii 0), (ii 0), (ii 0), (ii 0), (ii 0), (ii 0), (ii 0), (bb false), (ii 0), (ii 0)]) (h' := [([1001], (.box (lRecT p_r))), ([1002], (.box [(ii p_r.Kind), (ii p_r.Order), (ii 0), (ii 0), (ii 0), (ii 0), (ii 0), (ii 0), (ii 0), (ii 0), (bb false), (ii 0), (ii 0)]))]) (by kernel_rfl) (by kernel_rfl) (by kernel_rfl) rfl (by kernel_rfl) (by kernel_rfl) (by kernel_rfl) (by kernel_rfl)) rfl ?_
   refine G_nil ?_
   refine G_then ?_
   refine G_subW (s0 := ⟨⟨242, [(4, (bb false)), (3, (.box [1002] 0)), (2, (bb false)), (1, (.box [1001] 0))]⟩, mkH [([1001], (.box (lRecT p_r))), ([1002], (.box [(ii p_r.Kind), (ii p_r.Order), (ii 0), (ii 0), (ii 0), (ii 0), (ii 0), (ii 0), (ii 0), (ii 0), (bb false), (ii 0), (ii 0)]))]⟩) (by exact Sub_env ⟨.refl _, .refl _, .refl _, .refl _, trivial⟩) ?_
   refine G_seq ?_
   refine G_region ?_
   refine G_op [0] (v := (.box [1001] 2)) (E_p (by kernel_rfl)) rfl rfl ?_
   refine G_op [0] (v := (ii p_r.Account)) (E_load (by kernel_rfl)) rfl rfl ?_
   refine G_op [0] (v := (.box [1002] 2)) (E_p (by kernel_rfl)) rfl rfl ?_
   refine G_op0 [0] (v := (.val (.tup []))) (E_store (b := [1002]) (o := 2) (cs := [(ii p_r.Account)]) (cells := [(ii p_r.Kind), (ii p_r.Order), (ii 0), (ii 0), (ii 0), (ii 0), (ii 0), (ii 0), (ii 0), (ii 0), (bb false), (ii 0), (ii 0)]) (cells' := [(ii p_r.Kind), (ii p_r.Order), (ii p_r.Account), (ii 0), (ii 0), (ii 0), (ii 0), (ii 0), (ii 0), (ii 0), (bb false), (ii 0), (ii 0)]) (h' := [([1001], (.box (lRecT p_r))), ([1002], (.box [(ii p_r.Kind), (ii p_r.Order), (ii p_r.Account), (ii 0), (ii 0), (ii 0), (ii 0), (ii 0), (ii 0), (ii 0), (bb false), (ii 0), (ii 0)]))]) (by kernel_rfl) (by kernel_rfl) (by kernel_rfl) rfl (by kernel_rfl) (by kernel_rfl) (by kernel_rfl) (by kernel_rfl)) rfl ?_
   refine G_nil ?_
   refine G_then ?_
   refine G_seq ?_
   refine G_region ?_
   refine G_op [0] (v := (.box [1001] 3)) (E_p (by kernel_rfl)) rfl rfl ?_
   refine G_op [0] (v := (ii p_r.Symbol)) (E_load (by kernel_rfl)) rfl rfl ?_
   refine G_op [0] (v := (.box [1002] 3)) (E_p (by kernel_rfl)) rfl rfl ?_
   refine G_op0 [0] (v := (.val (.tup []))) (E_store (b := [1002]) (o := 3) (cs := [(ii p_r.Symbol)]) (cells := [(ii p_r.Kind), (ii p_r.Order), (ii p_r.Account), (ii 0), (ii 0), (ii 0), (ii 0), (ii 0), (ii 0), (ii 0), (bb false), (ii 0), (ii 0)]) (cells' := [(ii p_r.Kind), (ii p_r.Order), (ii p_r.Account), (ii p_r.Symbol), (ii 0), (ii 0), (ii 0), (ii 0), (ii 0), (ii 0), (bb false), (ii 0), (ii 0)]) (h' := [([1001], (.box (lRecT p_r))), ([1002], (.box [(ii p_r.Kind), (ii p_r.Order), (ii p_r.Account), (ii p_r.Symbol), (ii 0), (ii 0), (ii 0), (ii 0), (ii 0), (ii 0), (bb false), (ii 0), (ii 0)]))]) (by kernel_rfl) (by kernel_rfl) (by kernel_rfl) rfl (by kernel_rfl) (by kernel_rfl) (by kernel_rfl) (by kernel_rfl)) rfl ?_
   refine G_nil ?_
   refine G_then ?_
   refine G_seq ?_
   refine G_region ?_
   refine G_op [0] (v := (.box [1001] 4)) (E_p (by kernel_rfl)) rfl rfl ?_
   refine G_op [0] (v := (ii p_r.Side)) (E_load (by kernel_rfl)) rfl rfl ?_
   refine G_op [0] (v := (.box [1002] 4)) (E_p (by kernel_rfl)) rfl rfl ?_
   refine G_op0 [0] (v := (.val (.tup []))) (E_store (b := [1002]) (o := 4) (cs := [(ii p_r.Side)]) (cells := [(ii p_r.Kind), (ii p_r.Order), (ii p_r.Account), (ii p_r.Symbol), (ii 0), (ii 0), (ii 0), (ii 0), (ii 0), (ii 0), (bb false), (ii 0), (ii 0)]) (cells' := [(ii p_r.Kind), (ii p_r.Order), (ii p_r.Account), (ii p_r.Symbol), (ii p_r.Side), (ii 0), (ii 0), (ii 0), (ii 0), (ii 0), (bb false), (ii 0), (ii 0)]) (h' := [([1001], (.box (lRecT p_r))), ([1002], (.box [(ii p_r.Kind), (ii p_r.Order), (ii p_r.Account), (ii p_r.Symbol), (ii p_r.Side), (ii 0), (ii 0), (ii 0), (ii 0), (ii 0), (bb false), (ii 0), (ii 0)]))]) (by kernel_rfl) (by kernel_rfl) (by kernel_rfl) rfl (by kernel_rfl) (by kernel_rfl) (by kernel_rfl) (by kernel_rfl)) rfl ?_
   refine G_nil ?_
   refine G_then ?_
   refine G_subW (s0 := ⟨⟨242, [(4, (bb false)), (3, (.box [1002] 0)), (2, (bb false)), (1, (.box [1001] 0))]⟩, mkH [([1001], (.box (lRecT p_r))), ([1002], (.box [(ii p_r.Kind), (ii p_r.Order), (ii p_r.Account), (ii p_r.Symbol), (ii p_r.Side), (ii 0), (ii 0), (ii 0), (ii 0), (ii 0), (bb false), (ii 0), (ii 0)]))]⟩) (by exact Sub_env ⟨.refl _, .refl _, .refl _, .refl _, trivial⟩) ?_
   refine G_seq ?_
   refine G_region ?_
   refine G_op [0] (v := (.box [1001] 5)) (E_p (by kernel_rfl)) rfl rfl ?_
   refine G_op [0] (v := (ii p_r.Qty)) (E_load (by kernel_rfl)) rfl rfl ?_
   refine G_op [0] (v := (.box [1002] 5)) (E_p (by kernel_rfl)) rfl rfl ?_
   refine G_op0 [0] (v := (.val (.tup []))) (E_store (b := [1002]) (o := 5) (cs := [(ii p_r.Qty)]) (cells := [(ii p_r.Kind), (ii p_r.Order), (ii p_r.Account), (ii p_r.Symbol), (ii p_r.Side), (ii 0), (ii 0), (ii 0), (ii 0), (ii 0), (bb false), (ii 0), (ii 0)]) (cells' := [(ii p_r.Kind), (ii p_r.Order), (ii p_r.Account), (ii p_r.Symbol), (ii p_r.Side), (ii p_r.Qty), (ii 0), (ii 0), (ii 0), (ii 0), (bb false), (ii 0), (ii 0)]) (h' := [([1001], (.box (lRecT p_r))), ([1002], (.box [(ii p_r.Kind), (ii p_r.Order), (ii p_r.Account), (ii p_r.Symbol), (ii p_r.Side), (ii p_r.Qty), (ii 0), (ii 0), (ii 0), (ii 0), (bb false), (ii 0), (ii 0)]))]) (by kernel_rfl) (by kernel_rfl) (by kernel_rfl) rfl (by kernel_rfl) (by kernel_rfl) (by kernel_rfl) (by kernel_rfl)) rfl ?_
   refine G_nil ?_
   refine G_then ?_
   refine G_seq ?_
   refine G_region ?_
   refine G_op [0] (v := (.box [1001] 6)) (E_p (by kernel_rfl)) rfl rfl ?_
   refine G_op [0] (v := (ii p_r.Price)) (E_load (by kernel_rfl)) rfl rfl ?_
   refine G_op [0] (v := (.box [1002] 6)) (E_p (by kernel_rfl)) rfl rfl ?_
   refine G_op0 [0] (v := (.val (.tup []))) (E_store (b := [1002]) (o := 6) (cs := [(ii p_r.Price)]) (cells := [(ii p_r.Kind), (ii p_r.Order), (ii p_r.Account), (ii p_r.Symbol), (ii p_r.Side), (ii p_r.Qty), (ii 0), (ii 0), (ii 0), (ii 0), (bb false), (ii 0), (ii 0)]) (cells' := [(ii p_r.Kind), (ii p_r.Order), (ii p_r.Account), (ii p_r.Symbol), (ii p_r.Side), (ii p_r.Qty), (ii p_r.Price), (ii 0), (ii 0), (ii 0), (bb false), (ii 0), (ii 0)]) (h' := [([1001], (.box (lRecT p_r))), ([1002], (.box [(ii p_r.Kind), (ii p_r.Order), (ii p_r.Account), (ii p_r.Symbol), (ii p_r.Side), (ii p_r.Qty), (ii p_r.Price), (ii 0), (ii 0), (ii 0), (bb false), (ii 0), (ii 0)]))]) (by kernel_rfl) (by kernel_rfl) (by kernel_rfl) rfl (by kernel_rfl) (by kernel_rfl) (by kernel_rfl) (by kernel_rfl)) rfl ?_
   refine G_nil ?_
   refine G_then ?_
   refine G_region ?_
   refine G_op [0] (v := (.box [1001] 1)) (E_p (by kernel_rfl)) rfl rfl ?_
   refine G_op [0] (v := (ii p_r.Order)) (E_load (by kernel_rfl)) rfl rfl ?_
   refine q_bind fun v3 hv3 => ?_
   refine G_op [0] (v := (bb v3)) (E_call (ds := [.int .i64 p_r.Order]) (r := .bool v3) hc84 (by kernel_rfl) ((hs84 p_r.Order _ (by kernel_rfl)).trans (congrArg _ hv3))) rfl rfl ?_
   refine G_op [0] (v := (bb v3)) (E_p (by kernel_rfl)) rfl rfl ?_
   refine G_pure (l := t66_0) (st := ⟨⟨242, [(37, (bb ((v3 && (decide (p_r.Account ≥ 0)))))), (4, (bb false)), (3, (.box [1002] 0)), (2, (bb false)), (1, (.box [1001] 0))]⟩, mkH [([1001], (.box (lRecT p_r))), ([1002], (.box [(ii p_r.Kind), (ii p_r.Order), (ii p_r.Account), (ii p_r.Symbol), (ii p_r.Side), (ii p_r.Qty), (ii p_r.Price), (ii 0), (ii 0), (ii 0), (bb false), (ii 0), (ii 0)]))]⟩) ?_ (fun r6 => ?_)
   ·refine G_op [0] (v := (bb ((v3 && (decide (p_r.Account ≥ 0)))))) (E_p (by kernel_rfl)) rfl rfl ?_
    refine G_pure (l := t66_1) (st := ⟨⟨242, [(42, (bb (((v3 && (decide (p_r.Account ≥ 0))) && (decide (p_r.Account < 8)))))), (4, (bb false)), (3, (.box [1002] 0)), (2, (bb false)), (1, (.box [1001] 0))]⟩, mkH [([1001], (.box (lRecT p_r))), ([1002], (.box [(ii p_r.Kind), (ii p_r.Order), (ii p_r.Account), (ii p_r.Symbol), (ii p_r.Side), (ii p_r.Qty), (ii p_r.Price), (ii 0), (ii 0), (ii 0), (bb false), (ii 0), (ii 0)]))]⟩) ?_ (fun r9 => ?_)
    ·refine G_op [0] (v := (bb (((v3 && (decide (p_r.Account ≥ 0))) && (decide (p_r.Account < 8)))))) (E_p (by kernel_rfl)) rfl rfl ?_
     refine G_pure (l := t66_2) (st := ⟨⟨242, [(47, (bb ((((v3 && (decide (p_r.Account ≥ 0))) && (decide (p_r.Account < 8))) && (decide (p_r.Symbol ≥ 0)))))), (4, (bb false)), (3, (.box [1002] 0)), (2, (bb false)), (1, (.box [1001] 0))]⟩, mkH [([1001], (.box (lRecT p_r))), ([1002], (.box [(ii p_r.Kind), (ii p_r.Order), (ii p_r.Account), (ii p_r.Symbol), (ii p_r.Side), (ii p_r.Qty), (ii p_r.Price), (ii 0), (ii 0), (ii 0), (bb false), (ii 0), (ii 0)]))]⟩) ?_ (fun r12 => ?_)
     ·refine G_op [0] (v := (bb ((((v3 && (decide (p_r.Account ≥ 0))) && (decide (p_r.Account < 8))) && (decide (p_r.Symbol ≥ 0)))))) (E_p (by kernel_rfl)) rfl rfl ?_
      refine G_pure (l := t66_3) (st := ⟨⟨242, [(52, (bb (((((v3 && (decide (p_r.Account ≥ 0))) && (decide (p_r.Account < 8))) && (decide (p_r.Symbol ≥ 0))) && (decide (p_r.Symbol < 8)))))), (4, (bb false)), (3, (.box [1002] 0)), (2, (bb false)), (1, (.box [1001] 0))]⟩, mkH [([1001], (.box (lRecT p_r))), ([1002], (.box [(ii p_r.Kind), (ii p_r.Order), (ii p_r.Account), (ii p_r.Symbol), (ii p_r.Side), (ii p_r.Qty), (ii p_r.Price), (ii 0), (ii 0), (ii 0), (bb false), (ii 0), (ii 0)]))]⟩) ?_ (fun r15 => ?_)
      ·refine G_op [0] (v := (bb (((((v3 && (decide (p_r.Account ≥ 0))) && (decide (p_r.Account < 8))) && (decide (p_r.Symbol ≥ 0))) && (decide (p_r.Symbol < 8)))))) (E_p (by kernel_rfl)) rfl rfl ?_
       refine G_pure (l := t66_4) (st := ⟨⟨242, [(57, (bb ((((((v3 && (decide (p_r.Account ≥ 0))) && (decide (p_r.Account < 8))) && (decide (p_r.Symbol ≥ 0))) && (decide (p_r.Symbol < 8))) && (decide (p_r.Side ≥ 1)))))), (4, (bb false)), (3, (.box [1002] 0)), (2, (bb false)), (1, (.box [1001] 0))]⟩, mkH [([1001], (.box (lRecT p_r))), ([1002], (.box [(ii p_r.Kind), (ii p_r.Order), (ii p_r.Account), (ii p_r.Symbol), (ii p_r.Side), (ii p_r.Qty), (ii p_r.Price), (ii 0), (ii 0), (ii 0), (bb false), (ii 0), (ii 0)]))]⟩) ?_ (fun r18 => ?_)
       ·refine G_op [0] (v := (bb ((((((v3 && (decide (p_r.Account ≥ 0))) && (decide (p_r.Account < 8))) && (decide (p_r.Symbol ≥ 0))) && (decide (p_r.Symbol < 8))) && (decide (p_r.Side ≥ 1)))))) (E_p (by kernel_rfl)) rfl rfl ?_
        refine G_pure (l := t66_5) (st := ⟨⟨242, [(62, (bb (((((((v3 && (decide (p_r.Account ≥ 0))) && (decide (p_r.Account < 8))) && (decide (p_r.Symbol ≥ 0))) && (decide (p_r.Symbol < 8))) && (decide (p_r.Side ≥ 1))) && (decide (p_r.Side ≤ 2)))))), (4, (bb false)), (3, (.box [1002] 0)), (2, (bb false)), (1, (.box [1001] 0))]⟩, mkH [([1001], (.box (lRecT p_r))), ([1002], (.box [(ii p_r.Kind), (ii p_r.Order), (ii p_r.Account), (ii p_r.Symbol), (ii p_r.Side), (ii p_r.Qty), (ii p_r.Price), (ii 0), (ii 0), (ii 0), (bb false), (ii 0), (ii 0)]))]⟩) ?_ (fun r21 => ?_)
        ·refine G_op [0] (v := (bb (((((((v3 && (decide (p_r.Account ≥ 0))) && (decide (p_r.Account < 8))) && (decide (p_r.Symbol ≥ 0))) && (decide (p_r.Symbol < 8))) && (decide (p_r.Side ≥ 1))) && (decide (p_r.Side ≤ 2)))))) (E_p (by kernel_rfl)) rfl rfl ?_
         refine G_pure (l := t66_6) (st := ⟨⟨242, [(67, (bb ((((((((v3 && (decide (p_r.Account ≥ 0))) && (decide (p_r.Account < 8))) && (decide (p_r.Symbol ≥ 0))) && (decide (p_r.Symbol < 8))) && (decide (p_r.Side ≥ 1))) && (decide (p_r.Side ≤ 2))) && (decide (p_r.Qty > 0)))))), (4, (bb false)), (3, (.box [1002] 0)), (2, (bb false)), (1, (.box [1001] 0))]⟩, mkH [([1001], (.box (lRecT p_r))), ([1002], (.box [(ii p_r.Kind), (ii p_r.Order), (ii p_r.Account), (ii p_r.Symbol), (ii p_r.Side), (ii p_r.Qty), (ii p_r.Price), (ii 0), (ii 0), (ii 0), (bb false), (ii 0), (ii 0)]))]⟩) ?_ (fun r24 => ?_)
         ·refine G_op [0] (v := (bb ((((((((v3 && (decide (p_r.Account ≥ 0))) && (decide (p_r.Account < 8))) && (decide (p_r.Symbol ≥ 0))) && (decide (p_r.Symbol < 8))) && (decide (p_r.Side ≥ 1))) && (decide (p_r.Side ≤ 2))) && (decide (p_r.Qty > 0)))))) (E_p (by kernel_rfl)) rfl rfl ?_
          refine G_pure (l := t66_7) (st := ⟨⟨242, [(72, (bb (((((((((v3 && (decide (p_r.Account ≥ 0))) && (decide (p_r.Account < 8))) && (decide (p_r.Symbol ≥ 0))) && (decide (p_r.Symbol < 8))) && (decide (p_r.Side ≥ 1))) && (decide (p_r.Side ≤ 2))) && (decide (p_r.Qty > 0))) && (decide (p_r.Price > 0)))))), (4, (bb false)), (3, (.box [1002] 0)), (2, (bb false)), (1, (.box [1001] 0))]⟩, mkH [([1001], (.box (lRecT p_r))), ([1002], (.box [(ii p_r.Kind), (ii p_r.Order), (ii p_r.Account), (ii p_r.Symbol), (ii p_r.Side), (ii p_r.Qty), (ii p_r.Price), (ii 0), (ii 0), (ii 0), (bb false), (ii 0), (ii 0)]))]⟩) ?_ (fun r27 => ?_)
          ·refine G_op [0] (v := (bb (((((((((v3 && (decide (p_r.Account ≥ 0))) && (decide (p_r.Account < 8))) && (decide (p_r.Symbol ≥ 0))) && (decide (p_r.Symbol < 8))) && (decide (p_r.Side ≥ 1))) && (decide (p_r.Side ≤ 2))) && (decide (p_r.Qty > 0))) && (decide (p_r.Price > 0)))))) (E_p (by kernel_rfl)) rfl rfl ?_
           refine G_nil ?_
           exact q_some fun h => ((QN_inB QN_then) : QN _ _) _ _ (by exact Sub_env ⟨.refl _, .refl _, .refl _, .refl _, trivial⟩) h
          ·refine q_two (((((((v3 && (decide (p_r.Account ≥ 0))) && (decide (p_r.Account < 8))) && (decide (p_r.Symbol ≥ 0))) && (decide (p_r.Symbol < 8))) && (decide (p_r.Side ≥ 1))) && (decide (p_r.Side ≤ 2))) && (decide (p_r.Qty > 0))) (fun h25 => ?_) (fun h25 => ?_)
           ·refine G_subR (Sub_lit (t := 68) (v := true) rfl h25) ?_
            refine G_op [0] (v := (.box [1001] 6)) (E_p (by kernel_rfl)) rfl rfl ?_
            refine G_op [0] (v := (ii p_r.Price)) (E_load (by kernel_rfl)) rfl rfl ?_
            refine G_op [0] (v := (bb ((decide (p_r.Price > 0))))) (E_p (by kernel_rfl)) rfl rfl ?_
            refine G_op [0] (v := (bb ((decide (p_r.Price > 0))))) (E_p (by kernel_rfl)) rfl rfl ?_
            exact q_some fun h => RP_sub (by exact Sub_env ⟨(Wk_and1 h25), .refl _, .refl _, .refl _, .refl _, trivial⟩) h
           ·refine G_subR (Sub_lit (t := 68) (v := false) rfl h25) ?_
            refine G_off rfl rfl ?_
            refine G_off rfl rfl ?_
            refine G_off rfl rfl ?_
            refine G_op [0] (v := (bb false)) (E_p (by kernel_rfl)) rfl rfl ?_
            exact q_some fun h => RP_sub (by exact Sub_env ⟨(Wk_and0 h25), .refl _, .refl _, .refl _, .refl _, trivial⟩) h
         ·refine q_two ((((((v3 && (decide (p_r.Account ≥ 0))) && (decide (p_r.Account < 8))) && (decide (p_r.Symbol ≥ 0))) && (decide (p_r.Symbol < 8))) && (decide (p_r.Side ≥ 1))) && (decide (p_r.Side ≤ 2))) (fun h22 => ?_) (fun h22 => ?_)
          ·refine G_subR (Sub_lit (t := 63) (v := true) rfl h22) ?_
           refine G_op [0] (v := (.box [1001] 5)) (E_p (by kernel_rfl)) rfl rfl ?_
           refine G_op [0] (v := (ii p_r.Qty)) (E_load (by kernel_rfl)) rfl rfl ?_
           refine G_op [0] (v := (bb ((decide (p_r.Qty > 0))))) (E_p (by kernel_rfl)) rfl rfl ?_
           refine G_op [0] (v := (bb ((decide (p_r.Qty > 0))))) (E_p (by kernel_rfl)) rfl rfl ?_
           exact q_some fun h => RP_sub (by exact Sub_env ⟨(Wk_and1 h22), .refl _, .refl _, .refl _, .refl _, trivial⟩) h
          ·refine G_subR (Sub_lit (t := 63) (v := false) rfl h22) ?_
           refine G_off rfl rfl ?_
           refine G_off rfl rfl ?_
           refine G_off rfl rfl ?_
           refine G_op [0] (v := (bb false)) (E_p (by kernel_rfl)) rfl rfl ?_
           exact q_some fun h => RP_sub (by exact Sub_env ⟨(Wk_and0 h22), .refl _, .refl _, .refl _, .refl _, trivial⟩) h
        ·refine q_two (((((v3 && (decide (p_r.Account ≥ 0))) && (decide (p_r.Account < 8))) && (decide (p_r.Symbol ≥ 0))) && (decide (p_r.Symbol < 8))) && (decide (p_r.Side ≥ 1))) (fun h19 => ?_) (fun h19 => ?_)
         ·refine G_subR (Sub_lit (t := 58) (v := true) rfl h19) ?_
          refine G_op [0] (v := (.box [1001] 4)) (E_p (by kernel_rfl)) rfl rfl ?_
          refine G_op [0] (v := (ii p_r.Side)) (E_load (by kernel_rfl)) rfl rfl ?_
          refine G_op [0] (v := (bb ((decide (p_r.Side ≤ 2))))) (E_p (by kernel_rfl)) rfl rfl ?_
          refine G_op [0] (v := (bb ((decide (p_r.Side ≤ 2))))) (E_p (by kernel_rfl)) rfl rfl ?_
          exact q_some fun h => RP_sub (by exact Sub_env ⟨(Wk_and1 h19), .refl _, .refl _, .refl _, .refl _, trivial⟩) h
         ·refine G_subR (Sub_lit (t := 58) (v := false) rfl h19) ?_
          refine G_off rfl rfl ?_
          refine G_off rfl rfl ?_
          refine G_off rfl rfl ?_
          refine G_op [0] (v := (bb false)) (E_p (by kernel_rfl)) rfl rfl ?_
          exact q_some fun h => RP_sub (by exact Sub_env ⟨(Wk_and0 h19), .refl _, .refl _, .refl _, .refl _, trivial⟩) h
       ·refine q_two ((((v3 && (decide (p_r.Account ≥ 0))) && (decide (p_r.Account < 8))) && (decide (p_r.Symbol ≥ 0))) && (decide (p_r.Symbol < 8))) (fun h16 => ?_) (fun h16 => ?_)
        ·refine G_subR (Sub_lit (t := 53) (v := true) rfl h16) ?_
         refine G_op [0] (v := (.box [1001] 4)) (E_p (by kernel_rfl)) rfl rfl ?_
         refine G_op [0] (v := (ii p_r.Side)) (E_load (by kernel_rfl)) rfl rfl ?_
         refine G_op [0] (v := (bb ((decide (p_r.Side ≥ 1))))) (E_p (by kernel_rfl)) rfl rfl ?_
         refine G_op [0] (v := (bb ((decide (p_r.Side ≥ 1))))) (E_p (by kernel_rfl)) rfl rfl ?_
         exact q_some fun h => RP_sub (by exact Sub_env ⟨(Wk_and1 h16), .refl _, .refl _, .refl _, .refl _, trivial⟩) h
        ·refine G_subR (Sub_lit (t := 53) (v := false) rfl h16) ?_
         refine G_off rfl rfl ?_
         refine G_off rfl rfl ?_
         refine G_off rfl rfl ?_
         refine G_op [0] (v := (bb false)) (E_p (by kernel_rfl)) rfl rfl ?_
         exact q_some fun h => RP_sub (by exact Sub_env ⟨(Wk_and0 h16), .refl _, .refl _, .refl _, .refl _, trivial⟩) h
      ·refine q_two (((v3 && (decide (p_r.Account ≥ 0))) && (decide (p_r.Account < 8))) && (decide (p_r.Symbol ≥ 0))) (fun h13 => ?_) (fun h13 => ?_)
       ·refine G_subR (Sub_lit (t := 48) (v := true) rfl h13) ?_
        refine G_op [0] (v := (.box [1001] 3)) (E_p (by kernel_rfl)) rfl rfl ?_
        refine G_op [0] (v := (ii p_r.Symbol)) (E_load (by kernel_rfl)) rfl rfl ?_
        refine G_op [0] (v := (bb ((decide (p_r.Symbol < 8))))) (E_p (by kernel_rfl)) rfl rfl ?_
        refine G_op [0] (v := (bb ((decide (p_r.Symbol < 8))))) (E_p (by kernel_rfl)) rfl rfl ?_
        exact q_some fun h => RP_sub (by exact Sub_env ⟨(Wk_and1 h13), .refl _, .refl _, .refl _, .refl _, trivial⟩) h
       ·refine G_subR (Sub_lit (t := 48) (v := false) rfl h13) ?_
        refine G_off rfl rfl ?_
        refine G_off rfl rfl ?_
        refine G_off rfl rfl ?_
        refine G_op [0] (v := (bb false)) (E_p (by kernel_rfl)) rfl rfl ?_
        exact q_some fun h => RP_sub (by exact Sub_env ⟨(Wk_and0 h13), .refl _, .refl _, .refl _, .refl _, trivial⟩) h
     ·refine q_two ((v3 && (decide (p_r.Account ≥ 0))) && (decide (p_r.Account < 8))) (fun h10 => ?_) (fun h10 => ?_)
      ·refine G_subR (Sub_lit (t := 43) (v := true) rfl h10) ?_
       refine G_op [0] (v := (.box [1001] 3)) (E_p (by kernel_rfl)) rfl rfl ?_
       refine G_op [0] (v := (ii p_r.Symbol)) (E_load (by kernel_rfl)) rfl rfl ?_
       refine G_op [0] (v := (bb ((decide (p_r.Symbol ≥ 0))))) (E_p (by kernel_rfl)) rfl rfl ?_
       refine G_op [0] (v := (bb ((decide (p_r.Symbol ≥ 0))))) (E_p (by kernel_rfl)) rfl rfl ?_
       exact q_some fun h => RP_sub (by exact Sub_env ⟨(Wk_and1 h10), .refl _, .refl _, .refl _, .refl _, trivial⟩) h
      ·refine G_subR (Sub_lit (t := 43) (v := false) rfl h10) ?_
       refine G_off rfl rfl ?_
       refine G_off rfl rfl ?_
       refine G_off rfl rfl ?_
       refine G_op [0] (v := (bb false)) (E_p (by kernel_rfl)) rfl rfl ?_
       exact q_some fun h => RP_sub (by exact Sub_env ⟨(Wk_and0 h10), .refl _, .refl _, .refl _, .refl _, trivial⟩) h
    ·refine q_two (v3 && (decide (p_r.Account ≥ 0))) (fun h7 => ?_) (fun h7 => ?_)
     ·refine G_subR (Sub_lit (t := 38) (v := true) rfl h7) ?_
      refine G_op [0] (v := (.box [1001] 2)) (E_p (by kernel_rfl)) rfl rfl ?_
      refine G_op [0] (v := (ii p_r.Account)) (E_load (by kernel_rfl)) rfl rfl ?_
      refine G_op [0] (v := (bb ((decide (p_r.Account < 8))))) (E_p (by kernel_rfl)) rfl rfl ?_
      refine G_op [0] (v := (bb ((decide (p_r.Account < 8))))) (E_p (by kernel_rfl)) rfl rfl ?_
      exact q_some fun h => RP_sub (by exact Sub_env ⟨(Wk_and1 h7), .refl _, .refl _, .refl _, .refl _, trivial⟩) h
     ·refine G_subR (Sub_lit (t := 38) (v := false) rfl h7) ?_
      refine G_off rfl rfl ?_
      refine G_off rfl rfl ?_
      refine G_off rfl rfl ?_
      refine G_op [0] (v := (bb false)) (E_p (by kernel_rfl)) rfl rfl ?_
      exact q_some fun h => RP_sub (by exact Sub_env ⟨(Wk_and0 h7), .refl _, .refl _, .refl _, .refl _, trivial⟩) h
   ·refine q_two v3 (fun h4 => ?_) (fun h4 => ?_)
    ·refine G_subR (Sub_lit (t := 33) (v := true) rfl h4) ?_
     refine G_op [0] (v := (.box [1001] 2)) (E_p (by kernel_rfl)) rfl rfl ?_
     refine G_op [0] (v := (ii p_r.Account)) (E_load (by kernel_rfl)) rfl rfl ?_
     refine G_op [0] (v := (bb ((decide (p_r.Account ≥ 0))))) (E_p (by kernel_rfl)) rfl rfl ?_
     refine G_op [0] (v := (bb ((decide (p_r.Account ≥ 0))))) (E_p (by kernel_rfl)) rfl rfl ?_
     exact q_some fun h => RP_sub (by exact Sub_env ⟨(Wk_and1 h4), .refl _, .refl _, .refl _, .refl _, trivial⟩) h
    ·refine G_subR (Sub_lit (t := 33) (v := false) rfl h4) ?_
     refine G_off rfl rfl ?_
     refine G_off rfl rfl ?_
     refine G_off rfl rfl ?_
     refine G_op [0] (v := (bb false)) (E_p (by kernel_rfl)) rfl rfl ?_
     exact q_some fun h => RP_sub (by exact Sub_env ⟨(Wk_and0 h4), .refl _, .refl _, .refl _, .refl _, trivial⟩) h
  ·refine G_seq ?_
   refine G_region ?_
   refine G_op [0] (v := (bb ((p_r.Kind == 2)))) (E_p (by kernel_rfl)) rfl rfl ?_
   refine G_op [0] (v := (bb ((p_r.Kind == 2)))) (E_p (by kernel_rfl)) rfl rfl ?_
   refine G_nil ?_
   refine G_then ?_
   refine G_join (st := fun j28 => ⟨⟨242, [(4, (bb j28.1)), (3, (.box [1002] 0)), (2, (bb false)), (1, (.box [1001] 0))]⟩, mkH [([1001], (.box (lRecT p_r))), ([1002], (.box [(ii p_r.Kind), (ii j28.2.1), (ii j28.2.2.1), (ii j28.2.2.2.1), (ii 0), (ii j28.2.2.2.2.1), (ii j28.2.2.2.2.2.1), (ii j28.2.2.2.2.2.2.1), (ii j28.2.2.2.2.2.2.2.1), (ii j28.2.2.2.2.2.2.2.2.1), (bb j28.2.2.2.2.2.2.2.2.2.1), (ii j28.2.2.2.2.2.2.2.2.2.2.1), (ii j28.2.2.2.2.2.2.2.2.2.2.2)]))]⟩) (fun j28 => ?_) (fun r29 hr29 => ?_)
   ·exact q_some fun h => ((QN_inB QN_then) : QN _ _) _ _ (by exact Sub_env ⟨.refl _, .refl _, .refl _, .refl _, trivial⟩) h
   ·refine G_cond (t := (p_r.Kind == 2)) (by kernel_rfl) (fun _ => ?_) (fun _ => ?_)
    ·refine G_seq ?_
     refine G_region ?_
     refine G_op [0] (v := (.box [1001] 1)) (E_p (by kernel_rfl)) rfl rfl ?_
     refine G_op [0] (v := (ii p_r.Order)) (E_load (by kernel_rfl)) rfl rfl ?_
     refine G_op [0] (v := (.box [1002] 1)) (E_p (by kernel_rfl)) rfl rfl ?_
     refine G_op0 [0] (v := (.val (.tup []))) (E_store (b := [1002]) (o := 1) (cs := [(ii p_r.Order)]) (cells := [(ii p_r.Kind), (ii 0), (ii 0), (ii 0), (ii 0), (ii 0), (ii 0), (ii 0), (ii 0), (ii 0), (bb false), (ii 0), (ii 0)]) (cells' := [(ii p_r.Kind), (ii p_r.Order), (ii 0), (ii 0), (ii 0), (ii 0), (ii 0), (ii 0), (ii 0), (ii 0), (bb false), (ii 0), (ii 0)]) (h' := [([1001], (.box (lRecT p_r))), ([1002], (.box [(ii p_r.Kind), (ii p_r.Order), (ii 0), (ii 0), (ii 0), (ii 0), (ii 0), (ii 0), (ii 0), (ii 0), (bb false), (ii 0), (ii 0)]))]) (by kernel_rfl) (by kernel_rfl) (by kernel_rfl) rfl (by kernel_rfl) (by kernel_rfl) (by kernel_rfl) (by kernel_rfl)) rfl ?_
     refine G_nil ?_
     refine G_then ?_
     refine G_subW (s0 := ⟨⟨242, [(4, (bb false)), (3, (.box [1002] 0)), (2, (bb false)), (1, (.box [1001] 0))]⟩, mkH [([1001], (.box (lRecT p_r))), ([1002], (.box [(ii p_r.Kind), (ii p_r.Order), (ii 0), (ii 0), (ii 0), (ii 0), (ii 0), (ii 0), (ii 0), (ii 0), (bb false), (ii 0), (ii 0)]))]⟩) (by exact Sub_env ⟨.refl _, .refl _, .refl _, .refl _, trivial⟩) ?_
     refine G_seq ?_
     refine G_region ?_
     refine G_op [0] (v := (.box [1001] 5)) (E_p (by kernel_rfl)) rfl rfl ?_
     refine G_op [0] (v := (ii p_r.Qty)) (E_load (by kernel_rfl)) rfl rfl ?_
     refine G_op [0] (v := (.box [1002] 5)) (E_p (by kernel_rfl)) rfl rfl ?_
     refine G_op0 [0] (v := (.val (.tup []))) (E_store (b := [1002]) (o := 5) (cs := [(ii p_r.Qty)]) (cells := [(ii p_r.Kind), (ii p_r.Order), (ii 0), (ii 0), (ii 0), (ii 0), (ii 0), (ii 0), (ii 0), (ii 0), (bb false), (ii 0), (ii 0)]) (cells' := [(ii p_r.Kind), (ii p_r.Order), (ii 0), (ii 0), (ii 0), (ii p_r.Qty), (ii 0), (ii 0), (ii 0), (ii 0), (bb false), (ii 0), (ii 0)]) (h' := [([1001], (.box (lRecT p_r))), ([1002], (.box [(ii p_r.Kind), (ii p_r.Order), (ii 0), (ii 0), (ii 0), (ii p_r.Qty), (ii 0), (ii 0), (ii 0), (ii 0), (bb false), (ii 0), (ii 0)]))]) (by kernel_rfl) (by kernel_rfl) (by kernel_rfl) rfl (by kernel_rfl) (by kernel_rfl) (by kernel_rfl) (by kernel_rfl)) rfl ?_
     refine G_nil ?_
     refine G_then ?_
     refine G_seq ?_
     refine G_region ?_
     refine G_op [0] (v := (.box [1001] 6)) (E_p (by kernel_rfl)) rfl rfl ?_
     refine G_op [0] (v := (ii p_r.Price)) (E_load (by kernel_rfl)) rfl rfl ?_
     refine G_op [0] (v := (.box [1002] 6)) (E_p (by kernel_rfl)) rfl rfl ?_
     refine G_op0 [0] (v := (.val (.tup []))) (E_store (b := [1002]) (o := 6) (cs := [(ii p_r.Price)]) (cells := [(ii p_r.Kind), (ii p_r.Order), (ii 0), (ii 0), (ii 0), (ii p_r.Qty), (ii 0), (ii 0), (ii 0), (ii 0), (bb false), (ii 0), (ii 0)]) (cells' := [(ii p_r.Kind), (ii p_r.Order), (ii 0), (ii 0), (ii 0), (ii p_r.Qty), (ii p_r.Price), (ii 0), (ii 0), (ii 0), (bb false), (ii 0), (ii 0)]) (h' := [([1001], (.box (lRecT p_r))), ([1002], (.box [(ii p_r.Kind), (ii p_r.Order), (ii 0), (ii 0), (ii 0), (ii p_r.Qty), (ii p_r.Price), (ii 0), (ii 0), (ii 0), (bb false), (ii 0), (ii 0)]))]) (by kernel_rfl) (by kernel_rfl) (by kernel_rfl) rfl (by kernel_rfl) (by kernel_rfl) (by kernel_rfl) (by kernel_rfl)) rfl ?_
     refine G_nil ?_
     refine G_then ?_
     refine G_region ?_
     refine G_op [0] (v := (.box [1001] 1)) (E_p (by kernel_rfl)) rfl rfl ?_
     refine G_op [0] (v := (ii p_r.Order)) (E_load (by kernel_rfl)) rfl rfl ?_
     refine q_bind fun v30 hv30 => ?_
     refine G_op [0] (v := (bb v30)) (E_call (ds := [.int .i64 p_r.Order]) (r := .bool v30) hc84 (by kernel_rfl) ((hs84 p_r.Order _ (by kernel_rfl)).trans (congrArg _ hv30))) rfl rfl ?_
     refine G_op [0] (v := (bb v30)) (E_p (by kernel_rfl)) rfl rfl ?_
     refine G_pure (l := t66_8) (st := ⟨⟨242, [(91, (bb ((v30 && (decide (p_r.Qty > 0)))))), (4, (bb false)), (3, (.box [1002] 0)), (2, (bb false)), (1, (.box [1001] 0))]⟩, mkH [([1001], (.box (lRecT p_r))), ([1002], (.box [(ii p_r.Kind), (ii p_r.Order), (ii 0), (ii 0), (ii 0), (ii p_r.Qty), (ii p_r.Price), (ii 0), (ii 0), (ii 0), (bb false), (ii 0), (ii 0)]))]⟩) ?_ (fun r33 => ?_)
     ·refine G_op [0] (v := (bb ((v30 && (decide (p_r.Qty > 0)))))) (E_p (by kernel_rfl)) rfl rfl ?_
      refine G_pure (l := t66_9) (st := ⟨⟨242, [(96, (bb (((v30 && (decide (p_r.Qty > 0))) && (decide (p_r.Price > 0)))))), (4, (bb false)), (3, (.box [1002] 0)), (2, (bb false)), (1, (.box [1001] 0))]⟩, mkH [([1001], (.box (lRecT p_r))), ([1002], (.box [(ii p_r.Kind), (ii p_r.Order), (ii 0), (ii 0), (ii 0), (ii p_r.Qty), (ii p_r.Price), (ii 0), (ii 0), (ii 0), (bb false), (ii 0), (ii 0)]))]⟩) ?_ (fun r36 => ?_)
      ·refine G_op [0] (v := (bb (((v30 && (decide (p_r.Qty > 0))) && (decide (p_r.Price > 0)))))) (E_p (by kernel_rfl)) rfl rfl ?_
       refine G_nil ?_
       exact q_some fun h => ((QN_inB QN_then) : QN _ _) _ _ (by exact Sub_env ⟨.refl _, .refl _, .refl _, .refl _, trivial⟩) h
      ·refine q_two (v30 && (decide (p_r.Qty > 0))) (fun h34 => ?_) (fun h34 => ?_)
       ·refine G_subR (Sub_lit (t := 92) (v := true) rfl h34) ?_
        refine G_op [0] (v := (.box [1001] 6)) (E_p (by kernel_rfl)) rfl rfl ?_
        refine G_op [0] (v := (ii p_r.Price)) (E_load (by kernel_rfl)) rfl rfl ?_
        refine G_op [0] (v := (bb ((decide (p_r.Price > 0))))) (E_p (by kernel_rfl)) rfl rfl ?_
        refine G_op [0] (v := (bb ((decide (p_r.Price > 0))))) (E_p (by kernel_rfl)) rfl rfl ?_
        exact q_some fun h => RP_sub (by exact Sub_env ⟨(Wk_and1 h34), .refl _, .refl _, .refl _, .refl _, trivial⟩) h
       ·refine G_subR (Sub_lit (t := 92) (v := false) rfl h34) ?_
        refine G_off rfl rfl ?_
        refine G_off rfl rfl ?_
        refine G_off rfl rfl ?_
        refine G_op [0] (v := (bb false)) (E_p (by kernel_rfl)) rfl rfl ?_
        exact q_some fun h => RP_sub (by exact Sub_env ⟨(Wk_and0 h34), .refl _, .refl _, .refl _, .refl _, trivial⟩) h
     ·refine q_two v30 (fun h31 => ?_) (fun h31 => ?_)
      ·refine G_subR (Sub_lit (t := 87) (v := true) rfl h31) ?_
       refine G_op [0] (v := (.box [1001] 5)) (E_p (by kernel_rfl)) rfl rfl ?_
       refine G_op [0] (v := (ii p_r.Qty)) (E_load (by kernel_rfl)) rfl rfl ?_
       refine G_op [0] (v := (bb ((decide (p_r.Qty > 0))))) (E_p (by kernel_rfl)) rfl rfl ?_
       refine G_op [0] (v := (bb ((decide (p_r.Qty > 0))))) (E_p (by kernel_rfl)) rfl rfl ?_
       exact q_some fun h => RP_sub (by exact Sub_env ⟨(Wk_and1 h31), .refl _, .refl _, .refl _, .refl _, trivial⟩) h
      ·refine G_subR (Sub_lit (t := 87) (v := false) rfl h31) ?_
       refine G_off rfl rfl ?_
       refine G_off rfl rfl ?_
       refine G_off rfl rfl ?_
       refine G_op [0] (v := (bb false)) (E_p (by kernel_rfl)) rfl rfl ?_
       exact q_some fun h => RP_sub (by exact Sub_env ⟨(Wk_and0 h31), .refl _, .refl _, .refl _, .refl _, trivial⟩) h
    ·refine G_seq ?_
     refine G_region ?_
     refine G_op [0] (v := (bb ((p_r.Kind == 3)))) (E_p (by kernel_rfl)) rfl rfl ?_
     refine G_op [0] (v := (bb ((p_r.Kind == 3)))) (E_p (by kernel_rfl)) rfl rfl ?_
     refine G_nil ?_
     refine G_then ?_
     refine G_subW (s0 := ⟨⟨242, [(97, (bb ((p_r.Kind == 3)))), (9, (ii p_r.Kind)), (4, (bb false)), (3, (.box [1002] 0)), (2, (bb false)), (1, (.box [1001] 0))]⟩, mkH [([1001], (.box (lRecT p_r))), ([1002], (.box [(ii p_r.Kind), (ii 0), (ii 0), (ii 0), (ii 0), (ii 0), (ii 0), (ii 0), (ii 0), (ii 0), (bb false), (ii 0), (ii 0)]))]⟩) (by exact Sub_env ⟨.refl _, .refl _, .refl _, .refl _, .refl _, .refl _, trivial⟩) ?_
     refine G_join (st := fun j37 => ⟨⟨242, [(4, (bb j37.1)), (3, (.box [1002] 0)), (2, (bb false)), (1, (.box [1001] 0))]⟩, mkH [([1001], (.box (lRecT p_r))), ([1002], (.box [(ii p_r.Kind), (ii j37.2.1), (ii j37.2.2.1), (ii j37.2.2.2.1), (ii 0), (ii j37.2.2.2.2.1), (ii j37.2.2.2.2.2.1), (ii j37.2.2.2.2.2.2.1), (ii j37.2.2.2.2.2.2.2.1), (ii j37.2.2.2.2.2.2.2.2.1), (bb j37.2.2.2.2.2.2.2.2.2.1), (ii j37.2.2.2.2.2.2.2.2.2.2.1), (ii j37.2.2.2.2.2.2.2.2.2.2.2)]))]⟩) (fun j37 => ?_) (fun r38 hr38 => ?_)
     ·exact q_some fun h => ((QN_inB QN_then) : QN _ _) _ _ (by exact Sub_env ⟨.refl _, .refl _, .refl _, .refl _, trivial⟩) h
     ·refine G_cond (t := (p_r.Kind == 3)) (by kernel_rfl) (fun _ => ?_) (fun _ => ?_)
      ·refine G_seq ?_
       refine G_region ?_
       refine G_op [0] (v := (.box [1001] 1)) (E_p (by kernel_rfl)) rfl rfl ?_
       refine G_op [0] (v := (ii p_r.Order)) (E_load (by kernel_rfl)) rfl rfl ?_
       refine G_op [0] (v := (.box [1002] 1)) (E_p (by kernel_rfl)) rfl rfl ?_
       refine G_op0 [0] (v := (.val (.tup []))) (E_store (b := [1002]) (o := 1) (cs := [(ii p_r.Order)]) (cells := [(ii p_r.Kind), (ii 0), (ii 0), (ii 0), (ii 0), (ii 0), (ii 0), (ii 0), (ii 0), (ii 0), (bb false), (ii 0), (ii 0)]) (cells' := [(ii p_r.Kind), (ii p_r.Order), (ii 0), (ii 0), (ii 0), (ii 0), (ii 0), (ii 0), (ii 0), (ii 0), (bb false), (ii 0), (ii 0)]) (h' := [([1001], (.box (lRecT p_r))), ([1002], (.box [(ii p_r.Kind), (ii p_r.Order), (ii 0), (ii 0), (ii 0), (ii 0), (ii 0), (ii 0), (ii 0), (ii 0), (bb false), (ii 0), (ii 0)]))]) (by kernel_rfl) (by kernel_rfl) (by kernel_rfl) rfl (by kernel_rfl) (by kernel_rfl) (by kernel_rfl) (by kernel_rfl)) rfl ?_
       refine G_nil ?_
       refine G_then ?_
       refine G_region ?_
       refine G_op [0] (v := (.box [1001] 1)) (E_p (by kernel_rfl)) rfl rfl ?_
       refine G_op [0] (v := (ii p_r.Order)) (E_load (by kernel_rfl)) rfl rfl ?_
       refine q_bind fun v39 hv39 => ?_
       refine G_op [0] (v := (bb v39)) (E_call (ds := [.int .i64 p_r.Order]) (r := .bool v39) hc84 (by kernel_rfl) ((hs84 p_r.Order _ (by kernel_rfl)).trans (congrArg _ hv39))) rfl rfl ?_
       refine G_op [0] (v := (bb v39)) (E_p (by kernel_rfl)) rfl rfl ?_
       refine G_nil ?_
       exact q_some fun h => ((QN_inB QN_then) : QN _ _) _ _ (by exact Sub_env ⟨.refl _, .refl _, .refl _, .refl _, trivial⟩) h
      ·refine G_seq ?_
       refine G_region ?_
       refine G_op [0] (v := (bb ((p_r.Kind == 4)))) (E_p (by kernel_rfl)) rfl rfl ?_
       refine G_op [0] (v := (bb ((p_r.Kind == 4)))) (E_p (by kernel_rfl)) rfl rfl ?_
       refine G_nil ?_
       refine G_then ?_
       refine G_join (st := fun j40 => ⟨⟨242, [(4, (bb j40.1)), (3, (.box [1002] 0)), (2, (bb false)), (1, (.box [1001] 0))]⟩, mkH [([1001], (.box (lRecT p_r))), ([1002], (.box [(ii p_r.Kind), (ii j40.2.1), (ii j40.2.2.1), (ii j40.2.2.2.1), (ii 0), (ii j40.2.2.2.2.1), (ii j40.2.2.2.2.2.1), (ii j40.2.2.2.2.2.2.1), (ii j40.2.2.2.2.2.2.2.1), (ii j40.2.2.2.2.2.2.2.2.1), (bb j40.2.2.2.2.2.2.2.2.2.1), (ii j40.2.2.2.2.2.2.2.2.2.2.1), (ii j40.2.2.2.2.2.2.2.2.2.2.2)]))]⟩) (fun j40 => ?_) (fun r41 hr41 => ?_)
       ·exact q_some fun h => ((QN_inB QN_then) : QN _ _) _ _ (by exact Sub_env ⟨.refl _, .refl _, .refl _, .refl _, trivial⟩) h
       ·refine G_cond (t := (p_r.Kind == 4)) (by kernel_rfl) (fun _ => ?_) (fun _ => ?_)
        ·refine G_seq ?_
         refine G_region ?_
         refine G_op [0] (v := (.box [1001] 2)) (E_p (by kernel_rfl)) rfl rfl ?_
         refine G_op [0] (v := (ii p_r.Account)) (E_load (by kernel_rfl)) rfl rfl ?_
         refine G_op [0] (v := (.box [1002] 2)) (E_p (by kernel_rfl)) rfl rfl ?_
         refine G_op0 [0] (v := (.val (.tup []))) (E_store (b := [1002]) (o := 2) (cs := [(ii p_r.Account)]) (cells := [(ii p_r.Kind), (ii 0), (ii 0), (ii 0), (ii 0), (ii 0), (ii 0), (ii 0), (ii 0), (ii 0), (bb false), (ii 0), (ii 0)]) (cells' := [(ii p_r.Kind), (ii 0), (ii p_r.Account), (ii 0), (ii 0), (ii 0), (ii 0), (ii 0), (ii 0), (ii 0), (bb false), (ii 0), (ii 0)]) (h' := [([1001], (.box (lRecT p_r))), ([1002], (.box [(ii p_r.Kind), (ii 0), (ii p_r.Account), (ii 0), (ii 0), (ii 0), (ii 0), (ii 0), (ii 0), (ii 0), (bb false), (ii 0), (ii 0)]))]) (by kernel_rfl) (by kernel_rfl) (by kernel_rfl) rfl (by kernel_rfl) (by kernel_rfl) (by kernel_rfl) (by kernel_rfl)) rfl ?_
         refine G_nil ?_
         refine G_then ?_
         refine G_seq ?_
         refine G_region ?_
         refine G_op [0] (v := (.box [1001] 3)) (E_p (by kernel_rfl)) rfl rfl ?_
         refine G_op [0] (v := (ii p_r.Symbol)) (E_load (by kernel_rfl)) rfl rfl ?_
         refine G_op [0] (v := (.box [1002] 3)) (E_p (by kernel_rfl)) rfl rfl ?_
         refine G_op0 [0] (v := (.val (.tup []))) (E_store (b := [1002]) (o := 3) (cs := [(ii p_r.Symbol)]) (cells := [(ii p_r.Kind), (ii 0), (ii p_r.Account), (ii 0), (ii 0), (ii 0), (ii 0), (ii 0), (ii 0), (ii 0), (bb false), (ii 0), (ii 0)]) (cells' := [(ii p_r.Kind), (ii 0), (ii p_r.Account), (ii p_r.Symbol), (ii 0), (ii 0), (ii 0), (ii 0), (ii 0), (ii 0), (bb false), (ii 0), (ii 0)]) (h' := [([1001], (.box (lRecT p_r))), ([1002], (.box [(ii p_r.Kind), (ii 0), (ii p_r.Account), (ii p_r.Symbol), (ii 0), (ii 0), (ii 0), (ii 0), (ii 0), (ii 0), (bb false), (ii 0), (ii 0)]))]) (by kernel_rfl) (by kernel_rfl) (by kernel_rfl) rfl (by kernel_rfl) (by kernel_rfl) (by kernel_rfl) (by kernel_rfl)) rfl ?_
         refine G_nil ?_
         refine G_then ?_
         refine G_subW (s0 := ⟨⟨242, [(4, (bb false)), (3, (.box [1002] 0)), (2, (bb false)), (1, (.box [1001] 0))]⟩, mkH [([1001], (.box (lRecT p_r))), ([1002], (.box [(ii p_r.Kind), (ii 0), (ii p_r.Account), (ii p_r.Symbol), (ii 0), (ii 0), (ii 0), (ii 0), (ii 0), (ii 0), (bb false), (ii 0), (ii 0)]))]⟩) (by exact Sub_env ⟨.refl _, .refl _, .refl _, .refl _, trivial⟩) ?_
         refine G_seq ?_
         refine G_region ?_
         refine G_op [0] (v := (.box [1001] 7)) (E_p (by kernel_rfl)) rfl rfl ?_
         refine G_op [0] (v := (ii p_r.Long)) (E_load (by kernel_rfl)) rfl rfl ?_
         refine G_op [0] (v := (.box [1002] 7)) (E_p (by kernel_rfl)) rfl rfl ?_
         refine G_op0 [0] (v := (.val (.tup []))) (E_store (b := [1002]) (o := 7) (cs := [(ii p_r.Long)]) (cells := [(ii p_r.Kind), (ii 0), (ii p_r.Account), (ii p_r.Symbol), (ii 0), (ii 0), (ii 0), (ii 0), (ii 0), (ii 0), (bb false), (ii 0), (ii 0)]) (cells' := [(ii p_r.Kind), (ii 0), (ii p_r.Account), (ii p_r.Symbol), (ii 0), (ii 0), (ii 0), (ii p_r.Long), (ii 0), (ii 0), (bb false), (ii 0), (ii 0)]) (h' := [([1001], (.box (lRecT p_r))), ([1002], (.box [(ii p_r.Kind), (ii 0), (ii p_r.Account), (ii p_r.Symbol), (ii 0), (ii 0), (ii 0), (ii p_r.Long), (ii 0), (ii 0), (bb false), (ii 0), (ii 0)]))]) (by kernel_rfl) (by kernel_rfl) (by kernel_rfl) rfl (by kernel_rfl) (by kernel_rfl) (by kernel_rfl) (by kernel_rfl)) rfl ?_
         refine G_nil ?_
         refine G_then ?_
         refine G_seq ?_
         refine G_region ?_
         refine G_op [0] (v := (.box [1001] 8)) (E_p (by kernel_rfl)) rfl rfl ?_
         refine G_op [0] (v := (ii p_r.Short)) (E_load (by kernel_rfl)) rfl rfl ?_
         refine G_op [0] (v := (.box [1002] 8)) (E_p (by kernel_rfl)) rfl rfl ?_
         refine G_op0 [0] (v := (.val (.tup []))) (E_store (b := [1002]) (o := 8) (cs := [(ii p_r.Short)]) (cells := [(ii p_r.Kind), (ii 0), (ii p_r.Account), (ii p_r.Symbol), (ii 0), (ii 0), (ii 0), (ii p_r.Long), (ii 0), (ii 0), (bb false), (ii 0), (ii 0)]) (cells' := [(ii p_r.Kind), (ii 0), (ii p_r.Account), (ii p_r.Symbol), (ii 0), (ii 0), (ii 0), (ii p_r.Long), (ii p_r.Short), (ii 0), (bb false), (ii 0), (ii 0)]) (h' := [([1001], (.box (lRecT p_r))), ([1002], (.box [(ii p_r.Kind), (ii 0), (ii p_r.Account), (ii p_r.Symbol), (ii 0), (ii 0), (ii 0), (ii p_r.Long), (ii p_r.Short), (ii 0), (bb false), (ii 0), (ii 0)]))]) (by kernel_rfl) (by kernel_rfl) (by kernel_rfl) rfl (by kernel_rfl) (by kernel_rfl) (by kernel_rfl) (by kernel_rfl)) rfl ?_
         refine G_nil ?_
         refine G_then ?_
         refine G_seq ?_
         refine G_region ?_
         refine G_op [0] (v := (.box [1001] 9)) (E_p (by kernel_rfl)) rfl rfl ?_
         refine G_op [0] (v := (ii p_r.Open)) (E_load (by kernel_rfl)) rfl rfl ?_
         refine G_op [0] (v := (.box [1002] 9)) (E_p (by kernel_rfl)) rfl rfl ?_
         refine G_op0 [0] (v := (.val (.tup []))) (E_store (b := [1002]) (o := 9) (cs := [(ii p_r.Open)]) (cells := [(ii p_r.Kind), (ii 0), (ii p_r.Account), (ii p_r.Symbol), (ii 0), (ii 0), (ii 0), (ii p_r.Long), (ii p_r.Short), (ii 0), (bb false), (ii 0), (ii 0)]) (cells' := [(ii p_r.Kind), (ii 0), (ii p_r.Account), (ii p_r.Symbol), (ii 0), (ii 0), (ii 0), (ii p_r.Long), (ii p_r.Short), (ii p_r.Open), (bb false), (ii 0), (ii 0)]) (h' := [([1001], (.box (lRecT p_r))), ([1002], (.box [(ii p_r.Kind), (ii 0), (ii p_r.Account), (ii p_r.Symbol), (ii 0), (ii 0), (ii 0), (ii p_r.Long), (ii p_r.Short), (ii p_r.Open), (bb false), (ii 0), (ii 0)]))]) (by kernel_rfl) (by kernel_rfl) (by kernel_rfl) rfl (by kernel_rfl) (by kernel_rfl) (by kernel_rfl) (by kernel_rfl)) rfl ?_
         refine G_nil ?_
         refine G_then ?_
         refine G_subW (s0 := ⟨⟨242, [(4, (bb false)), (3, (.box [1002] 0)), (2, (bb false)), (1, (.box [1001] 0))]⟩, mkH [([1001], (.box (lRecT p_r))), ([1002], (.box [(ii p_r.Kind), (ii 0), (ii p_r.Account), (ii p_r.Symbol), (ii 0), (ii 0), (ii 0), (ii p_r.Long), (ii p_r.Short), (ii p_r.Open), (bb false), (ii 0), (ii 0)]))]⟩) (by exact Sub_env ⟨.refl _, .refl _, .refl _, .refl _, trivial⟩) ?_
         refine G_seq ?_
         refine G_region ?_
         refine G_op [0] (v := (.box [1001] 2)) (E_p (by kernel_rfl)) rfl rfl ?_
         refine G_op [0] (v := (ii p_r.Account)) (E_load (by kernel_rfl)) rfl rfl ?_
         refine G_op [0] (v := (bb ((decide (p_r.Account ≥ 0))))) (E_p (by kernel_rfl)) rfl rfl ?_
         refine G_op [0] (v := (bb ((decide (p_r.Account ≥ 0))))) (E_p (by kernel_rfl)) rfl rfl ?_
         refine G_pure (l := t66_10) (st := ⟨⟨242, [(129, (bb (((decide (p_r.Account ≥ 0)) && (decide (p_r.Account < 8)))))), (4, (bb false)), (3, (.box [1002] 0)), (2, (bb false)), (1, (.box [1001] 0))]⟩, mkH [([1001], (.box (lRecT p_r))), ([1002], (.box [(ii p_r.Kind), (ii 0), (ii p_r.Account), (ii p_r.Symbol), (ii 0), (ii 0), (ii 0), (ii p_r.Long), (ii p_r.Short), (ii p_r.Open), (bb false), (ii 0), (ii 0)]))]⟩) ?_ (fun r44 => ?_)
         ·refine G_op [0] (v := (bb (((decide (p_r.Account ≥ 0)) && (decide (p_r.Account < 8)))))) (E_p (by kernel_rfl)) rfl rfl ?_
          refine G_pure (l := t66_11) (st := ⟨⟨242, [(134, (bb ((((decide (p_r.Account ≥ 0)) && (decide (p_r.Account < 8))) && (decide (p_r.Symbol ≥ (-1))))))), (4, (bb false)), (3, (.box [1002] 0)), (2, (bb false)), (1, (.box [1001] 0))]⟩, mkH [([1001], (.box (lRecT p_r))), ([1002], (.box [(ii p_r.Kind), (ii 0), (ii p_r.Account), (ii p_r.Symbol), (ii 0), (ii 0), (ii 0), (ii p_r.Long), (ii p_r.Short), (ii p_r.Open), (bb false), (ii 0), (ii 0)]))]⟩) ?_ (fun r47 => ?_)
          ·refine G_op [0] (v := (bb ((((decide (p_r.Account ≥ 0)) && (decide (p_r.Account < 8))) && (decide (p_r.Symbol ≥ (-1))))))) (E_p (by kernel_rfl)) rfl rfl ?_
           refine G_pure (l := t66_12) (st := ⟨⟨242, [(139, (bb (((((decide (p_r.Account ≥ 0)) && (decide (p_r.Account < 8))) && (decide (p_r.Symbol ≥ (-1)))) && (decide (p_r.Symbol < 8)))))), (4, (bb false)), (3, (.box [1002] 0)), (2, (bb false)), (1, (.box [1001] 0))]⟩, mkH [([1001], (.box (lRecT p_r))), ([1002], (.box [(ii p_r.Kind), (ii 0), (ii p_r.Account), (ii p_r.Symbol), (ii 0), (ii 0), (ii 0), (ii p_r.Long), (ii p_r.Short), (ii p_r.Open), (bb false), (ii 0), (ii 0)]))]⟩) ?_ (fun r50 => ?_)
           ·refine G_op [0] (v := (bb (((((decide (p_r.Account ≥ 0)) && (decide (p_r.Account < 8))) && (decide (p_r.Symbol ≥ (-1)))) && (decide (p_r.Symbol < 8)))))) (E_p (by kernel_rfl)) rfl rfl ?_
            refine G_pure (l := t66_13) (st := ⟨⟨242, [(144, (bb ((((((decide (p_r.Account ≥ 0)) && (decide (p_r.Account < 8))) && (decide (p_r.Symbol ≥ (-1)))) && (decide (p_r.Symbol < 8))) && (decide (p_r.Long ≥ 0)))))), (4, (bb false)), (3, (.box [1002] 0)), (2, (bb false)), (1, (.box [1001] 0))]⟩, mkH [([1001], (.box (lRecT p_r))), ([1002], (.box [(ii p_r.Kind), (ii 0), (ii p_r.Account), (ii p_r.Symbol), (ii 0), (ii 0), (ii 0), (ii p_r.Long), (ii p_r.Short), (ii p_r.Open), (bb false), (ii 0), (ii 0)]))]⟩) ?_ (fun r53 => ?_)
            ·refine G_op [0] (v := (bb ((((((decide (p_r.Account ≥ 0)) && (decide (p_r.Account < 8))) && (decide (p_r.Symbol ≥ (-1)))) && (decide (p_r.Symbol < 8))) && (decide (p_r.Long ≥ 0)))))) (E_p (by kernel_rfl)) rfl rfl ?_
             refine G_pure (l := t66_14) (st := ⟨⟨242, [(149, (bb (((((((decide (p_r.Account ≥ 0)) && (decide (p_r.Account < 8))) && (decide (p_r.Symbol ≥ (-1)))) && (decide (p_r.Symbol < 8))) && (decide (p_r.Long ≥ 0))) && (decide (p_r.Short ≥ 0)))))), (4, (bb false)), (3, (.box [1002] 0)), (2, (bb false)), (1, (.box [1001] 0))]⟩, mkH [([1001], (.box (lRecT p_r))), ([1002], (.box [(ii p_r.Kind), (ii 0), (ii p_r.Account), (ii p_r.Symbol), (ii 0), (ii 0), (ii 0), (ii p_r.Long), (ii p_r.Short), (ii p_r.Open), (bb false), (ii 0), (ii 0)]))]⟩) ?_ (fun r56 => ?_)
             ·refine G_op [0] (v := (bb (((((((decide (p_r.Account ≥ 0)) && (decide (p_r.Account < 8))) && (decide (p_r.Symbol ≥ (-1)))) && (decide (p_r.Symbol < 8))) && (decide (p_r.Long ≥ 0))) && (decide (p_r.Short ≥ 0)))))) (E_p (by kernel_rfl)) rfl rfl ?_
              refine G_pure (l := t66_15) (st := ⟨⟨242, [(154, (bb ((((((((decide (p_r.Account ≥ 0)) && (decide (p_r.Account < 8))) && (decide (p_r.Symbol ≥ (-1)))) && (decide (p_r.Symbol < 8))) && (decide (p_r.Long ≥ 0))) && (decide (p_r.Short ≥ 0))) && (decide (p_r.Open ≥ 0)))))), (4, (bb false)), (3, (.box [1002] 0)), (2, (bb false)), (1, (.box [1001] 0))]⟩, mkH [([1001], (.box (lRecT p_r))), ([1002], (.box [(ii p_r.Kind), (ii 0), (ii p_r.Account), (ii p_r.Symbol), (ii 0), (ii 0), (ii 0), (ii p_r.Long), (ii p_r.Short), (ii p_r.Open), (bb false), (ii 0), (ii 0)]))]⟩) ?_ (fun r59 => ?_)
              ·refine G_op [0] (v := (bb ((((((((decide (p_r.Account ≥ 0)) && (decide (p_r.Account < 8))) && (decide (p_r.Symbol ≥ (-1)))) && (decide (p_r.Symbol < 8))) && (decide (p_r.Long ≥ 0))) && (decide (p_r.Short ≥ 0))) && (decide (p_r.Open ≥ 0)))))) (E_p (by kernel_rfl)) rfl rfl ?_
               refine G_nil ?_
               refine G_then ?_
               refine G_seq ?_
               refine G_region ?_
               refine G_op [0] (v := (.box [1001] 3)) (E_p (by kernel_rfl)) rfl rfl ?_
               refine G_op [0] (v := (ii p_r.Symbol)) (E_load (by kernel_rfl)) rfl rfl ?_
               refine G_op [0] (v := (bb ((p_r.Symbol == (-1))))) (E_p (by kernel_rfl)) rfl rfl ?_
               refine G_op [0] (v := (bb ((p_r.Symbol == (-1))))) (E_p (by kernel_rfl)) rfl rfl ?_
               refine G_pure (l := []) (st := ⟨⟨242, [(167, (bb (((p_r.Symbol == (-1)) && ((p_r.Long != 0) || (p_r.Short != 0)))))), (4, (bb ((((((((decide (p_r.Account ≥ 0)) && (decide (p_r.Account < 8))) && (decide (p_r.Symbol ≥ (-1)))) && (decide (p_r.Symbol < 8))) && (decide (p_r.Long ≥ 0))) && (decide (p_r.Short ≥ 0))) && (decide (p_r.Open ≥ 0)))))), (3, (.box [1002] 0)), (2, (bb false)), (1, (.box [1001] 0))]⟩, mkH [([1001], (.box (lRecT p_r))), ([1002], (.box [(ii p_r.Kind), (ii 0), (ii p_r.Account), (ii p_r.Symbol), (ii 0), (ii 0), (ii 0), (ii p_r.Long), (ii p_r.Short), (ii p_r.Open), (bb false), (ii 0), (ii 0)]))]⟩) ?_ (fun r62 => ?_)
               ·refine G_nil ?_
                refine G_then ?_
                refine G_join (st := fun j63 => ⟨⟨242, [(4, (bb j63)), (3, (.box [1002] 0)), (2, (bb false)), (1, (.box [1001] 0))]⟩, mkH [([1001], (.box (lRecT p_r))), ([1002], (.box [(ii p_r.Kind), (ii 0), (ii p_r.Account), (ii p_r.Symbol), (ii 0), (ii 0), (ii 0), (ii p_r.Long), (ii p_r.Short), (ii p_r.Open), (bb false), (ii 0), (ii 0)]))]⟩) (fun j63 => ?_) (fun r64 hr64 => ?_)
                ·exact q_some fun h => ((QN_inB QN_then) : QN _ _) _ _ (by exact Sub_env ⟨.refl _, .refl _, .refl _, .refl _, trivial⟩) h
                ·refine G_cond (t := ((p_r.Symbol == (-1)) && ((p_r.Long != 0) || (p_r.Short != 0)))) (by kernel_rfl) (fun _ => ?_) (fun _ => ?_)
                 ·refine G_region ?_
                  refine G_op [0] (v := (bb false)) (E_p (by kernel_rfl)) rfl rfl ?_
                  refine G_nil ?_
                  exact q_some fun h => ((QN_inB QN_then) : QN _ _) _ _ (by exact Sub_env ⟨.refl _, .refl _, .refl _, .refl _, trivial⟩) h
                 ·refine G_skip ?_
                  exact q_some fun h => ((QN_inB QN_then) : QN _ _) _ _ (by exact Sub_env ⟨.refl _, .refl _, .refl _, .refl _, trivial⟩) h
               ·refine q_two (p_r.Symbol == (-1)) (fun h60 => ?_) (fun h60 => ?_)
                ·refine G_subR (Sub_lit (t := 158) (v := true) rfl h60) ?_
                 refine G_op [0] (v := (.box [1001] 7)) (E_p (by kernel_rfl)) rfl rfl ?_
                 refine G_op [0] (v := (ii p_r.Long)) (E_load (by kernel_rfl)) rfl rfl ?_
                 refine G_op [0] (v := (bb ((p_r.Long != 0)))) (E_p (by kernel_rfl)) rfl rfl ?_
                 refine G_op [0] (v := (bb ((p_r.Long != 0)))) (E_p (by kernel_rfl)) rfl rfl ?_
                 refine G_pure (l := t66_16) (st := ⟨⟨242, [(166, (bb (((p_r.Long != 0) || (p_r.Short != 0))))), (158, (bb true)), (4, (bb ((((((((decide (p_r.Account ≥ 0)) && (decide (p_r.Account < 8))) && (decide (p_r.Symbol ≥ (-1)))) && (decide (p_r.Symbol < 8))) && (decide (p_r.Long ≥ 0))) && (decide (p_r.Short ≥ 0))) && (decide (p_r.Open ≥ 0)))))), (3, (.box [1002] 0)), (2, (bb false)), (1, (.box [1001] 0))]⟩, mkH [([1001], (.box (lRecT p_r))), ([1002], (.box [(ii p_r.Kind), (ii 0), (ii p_r.Account), (ii p_r.Symbol), (ii 0), (ii 0), (ii 0), (ii p_r.Long), (ii p_r.Short), (ii p_r.Open), (bb false), (ii 0), (ii 0)]))]⟩) ?_ (fun r67 => ?_)
                 ·refine G_op [0] (v := (bb (((p_r.Long != 0) || (p_r.Short != 0))))) (E_p (by kernel_rfl)) rfl rfl ?_
                  exact q_some fun h => RP_sub (by exact Sub_env ⟨(Wk_and1 h60), .refl _, .refl _, .refl _, .refl _, trivial⟩) h
                 ·refine q_two (p_r.Long != 0) (fun h65 => ?_) (fun h65 => ?_)
                  ·refine G_subR (Sub_lit (t := 162) (v := true) rfl h65) ?_
                   refine G_off rfl rfl ?_
                   refine G_off rfl rfl ?_
                   refine G_off rfl rfl ?_
                   refine G_op [0] (v := (bb true)) (E_p (by kernel_rfl)) rfl rfl ?_
                   exact q_some fun h => RP_sub (by exact Sub_env ⟨(Wk_or1 h65), .refl _, .refl _, .refl _, .refl _, .refl _, trivial⟩) h
                  ·refine G_subR (Sub_lit (t := 162) (v := false) rfl h65) ?_
                   refine G_op [0] (v := (.box [1001] 8)) (E_p (by kernel_rfl)) rfl rfl ?_
                   refine G_op [0] (v := (ii p_r.Short)) (E_load (by kernel_rfl)) rfl rfl ?_
                   refine G_op [0] (v := (bb ((p_r.Short != 0)))) (E_p (by kernel_rfl)) rfl rfl ?_
                   refine G_op [0] (v := (bb ((p_r.Short != 0)))) (E_p (by kernel_rfl)) rfl rfl ?_
                   exact q_some fun h => RP_sub (by exact Sub_env ⟨(Wk_or0 h65), .refl _, .refl _, .refl _, .refl _, .refl _, trivial⟩) h
                ·refine G_subR (Sub_lit (t := 158) (v := false) rfl h60) ?_
                 refine G_off rfl rfl ?_
                 refine G_off rfl rfl ?_
                 refine G_off rfl rfl ?_
                 refine G_off rfl rfl ?_
                 refine G_off rfl rfl ?_
                 refine G_off rfl rfl ?_
                 refine G_off rfl rfl ?_
                 refine G_off rfl rfl ?_
                 refine G_op [0] (v := (bb false)) (E_p (by kernel_rfl)) rfl rfl ?_
                 exact q_some fun h => RP_sub (by exact Sub_env ⟨(Wk_and0 h60), .refl _, .refl _, .refl _, .refl _, trivial⟩) h
              ·refine q_two ((((((decide (p_r.Account ≥ 0)) && (decide (p_r.Account < 8))) && (decide (p_r.Symbol ≥ (-1)))) && (decide (p_r.Symbol < 8))) && (decide (p_r.Long ≥ 0))) && (decide (p_r.Short ≥ 0))) (fun h57 => ?_) (fun h57 => ?_)
               ·refine G_subR (Sub_lit (t := 150) (v := true) rfl h57) ?_
                refine G_op [0] (v := (.box [1001] 9)) (E_p (by kernel_rfl)) rfl rfl ?_
                refine G_op [0] (v := (ii p_r.Open)) (E_load (by kernel_rfl)) rfl rfl ?_
                refine G_op [0] (v := (bb ((decide (p_r.Open ≥ 0))))) (E_p (by kernel_rfl)) rfl rfl ?_
                refine G_op [0] (v := (bb ((decide (p_r.Open ≥ 0))))) (E_p (by kernel_rfl)) rfl rfl ?_
                exact q_some fun h => RP_sub (by exact Sub_env ⟨(Wk_and1 h57), .refl _, .refl _, .refl _, .refl _, trivial⟩) h
               ·refine G_subR (Sub_lit (t := 150) (v := false) rfl h57) ?_
                refine G_off rfl rfl ?_
                refine G_off rfl rfl ?_
                refine G_off rfl rfl ?_
                refine G_op [0] (v := (bb false)) (E_p (by kernel_rfl)) rfl rfl ?_
                exact q_some fun h => RP_sub (by exact Sub_env ⟨(Wk_and0 h57), .refl _, .refl _, .refl _, .refl _, trivial⟩) h
             ·refine q_two (((((decide (p_r.Account ≥ 0)) && (decide (p_r.Account < 8))) && (decide (p_r.Symbol ≥ (-1)))) && (decide (p_r.Symbol < 8))) && (decide (p_r.Long ≥ 0))) (fun h54 => ?_) (fun h54 => ?_)
              ·refine G_subR (Sub_lit (t := 145) (v := true) rfl h54) ?_
               refine G_op [0] (v := (.box [1001] 8)) (E_p (by kernel_rfl)) rfl rfl ?_
               refine G_op [0] (v := (ii p_r.Short)) (E_load (by kernel_rfl)) rfl rfl ?_
               refine G_op [0] (v := (bb ((decide (p_r.Short ≥ 0))))) (E_p (by kernel_rfl)) rfl rfl ?_
               refine G_op [0] (v := (bb ((decide (p_r.Short ≥ 0))))) (E_p (by kernel_rfl)) rfl rfl ?_
               exact q_some fun h => RP_sub (by exact Sub_env ⟨(Wk_and1 h54), .refl _, .refl _, .refl _, .refl _, trivial⟩) h
              ·refine G_subR (Sub_lit (t := 145) (v := false) rfl h54) ?_
               refine G_off rfl rfl ?_
               refine G_off rfl rfl ?_
               refine G_off rfl rfl ?_
               refine G_op [0] (v := (bb false)) (E_p (by kernel_rfl)) rfl rfl ?_
               exact q_some fun h => RP_sub (by exact Sub_env ⟨(Wk_and0 h54), .refl _, .refl _, .refl _, .refl _, trivial⟩) h
            ·refine q_two ((((decide (p_r.Account ≥ 0)) && (decide (p_r.Account < 8))) && (decide (p_r.Symbol ≥ (-1)))) && (decide (p_r.Symbol < 8))) (fun h51 => ?_) (fun h51 => ?_)
             ·refine G_subR (Sub_lit (t := 140) (v := true) rfl h51) ?_
              refine G_op [0] (v := (.box [1001] 7)) (E_p (by kernel_rfl)) rfl rfl ?_
              refine G_op [0] (v := (ii p_r.Long)) (E_load (by kernel_rfl)) rfl rfl ?_
              refine G_op [0] (v := (bb ((decide (p_r.Long ≥ 0))))) (E_p (by kernel_rfl)) rfl rfl ?_
              refine G_op [0] (v := (bb ((decide (p_r.Long ≥ 0))))) (E_p (by kernel_rfl)) rfl rfl ?_
              exact q_some fun h => RP_sub (by exact Sub_env ⟨(Wk_and1 h51), .refl _, .refl _, .refl _, .refl _, trivial⟩) h
             ·refine G_subR (Sub_lit (t := 140) (v := false) rfl h51) ?_
              refine G_off rfl rfl ?_
              refine G_off rfl rfl ?_
              refine G_off rfl rfl ?_
              refine G_op [0] (v := (bb false)) (E_p (by kernel_rfl)) rfl rfl ?_
              exact q_some fun h => RP_sub (by exact Sub_env ⟨(Wk_and0 h51), .refl _, .refl _, .refl _, .refl _, trivial⟩) h
           ·refine q_two (((decide (p_r.Account ≥ 0)) && (decide (p_r.Account < 8))) && (decide (p_r.Symbol ≥ (-1)))) (fun h48 => ?_) (fun h48 => ?_)
            ·refine G_subR (Sub_lit (t := 135) (v := true) rfl h48) ?_
             refine G_op [0] (v := (.box [1001] 3)) (E_p (by kernel_rfl)) rfl rfl ?_
             refine G_op [0] (v := (ii p_r.Symbol)) (E_load (by kernel_rfl)) rfl rfl ?_
             refine G_op [0] (v := (bb ((decide (p_r.Symbol < 8))))) (E_p (by kernel_rfl)) rfl rfl ?_
             refine G_op [0] (v := (bb ((decide (p_r.Symbol < 8))))) (E_p (by kernel_rfl)) rfl rfl ?_
             exact q_some fun h => RP_sub (by exact Sub_env ⟨(Wk_and1 h48), .refl _, .refl _, .refl _, .refl _, trivial⟩) h
            ·refine G_subR (Sub_lit (t := 135) (v := false) rfl h48) ?_
             refine G_off rfl rfl ?_
             refine G_off rfl rfl ?_
             refine G_off rfl rfl ?_
             refine G_op [0] (v := (bb false)) (E_p (by kernel_rfl)) rfl rfl ?_
             exact q_some fun h => RP_sub (by exact Sub_env ⟨(Wk_and0 h48), .refl _, .refl _, .refl _, .refl _, trivial⟩) h
          ·refine q_two ((decide (p_r.Account ≥ 0)) && (decide (p_r.Account < 8))) (fun h45 => ?_) (fun h45 => ?_)
           ·refine G_subR (Sub_lit (t := 130) (v := true) rfl h45) ?_
            refine G_op [0] (v := (.box [1001] 3)) (E_p (by kernel_rfl)) rfl rfl ?_
            refine G_op [0] (v := (ii p_r.Symbol)) (E_load (by kernel_rfl)) rfl rfl ?_
            refine G_op [0] (v := (bb ((decide (p_r.Symbol ≥ (-1)))))) (E_p (by kernel_rfl)) rfl rfl ?_
            refine G_op [0] (v := (bb ((decide (p_r.Symbol ≥ (-1)))))) (E_p (by kernel_rfl)) rfl rfl ?_
            exact q_some fun h => RP_sub (by exact Sub_env ⟨(Wk_and1 h45), .refl _, .refl _, .refl _, .refl _, trivial⟩) h
           ·refine G_subR (Sub_lit (t := 130) (v := false) rfl h45) ?_
            refine G_off rfl rfl ?_
            refine G_off rfl rfl ?_
            refine G_off rfl rfl ?_
            refine G_op [0] (v := (bb false)) (E_p (by kernel_rfl)) rfl rfl ?_
            exact q_some fun h => RP_sub (by exact Sub_env ⟨(Wk_and0 h45), .refl _, .refl _, .refl _, .refl _, trivial⟩) h
         ·refine q_two (decide (p_r.Account ≥ 0)) (fun h42 => ?_) (fun h42 => ?_)
          ·refine G_subR (Sub_lit (t := 125) (v := true) rfl h42) ?_
           refine G_op [0] (v := (.box [1001] 2)) (E_p (by kernel_rfl)) rfl rfl ?_
           refine G_op [0] (v := (ii p_r.Account)) (E_load (by kernel_rfl)) rfl rfl ?_
           refine G_op [0] (v := (bb ((decide (p_r.Account < 8))))) (E_p (by kernel_rfl)) rfl rfl ?_
           refine G_op [0] (v := (bb ((decide (p_r.Account < 8))))) (E_p (by kernel_rfl)) rfl rfl ?_
           exact q_some fun h => RP_sub (by exact Sub_env ⟨(Wk_and1 h42), .refl _, .refl _, .refl _, .refl _, trivial⟩) h
          ·refine G_subR (Sub_lit (t := 125) (v := false) rfl h42) ?_
           refine G_off rfl rfl ?_
           refine G_off rfl rfl ?_
           refine G_off rfl rfl ?_
           refine G_op [0] (v := (bb false)) (E_p (by kernel_rfl)) rfl rfl ?_
           exact q_some fun h => RP_sub (by exact Sub_env ⟨(Wk_and0 h42), .refl _, .refl _, .refl _, .refl _, trivial⟩) h
        ·refine G_seq ?_
         refine G_region ?_
         refine G_op [0] (v := (bb ((p_r.Kind == 5)))) (E_p (by kernel_rfl)) rfl rfl ?_
         refine G_op [0] (v := (bb ((p_r.Kind == 5)))) (E_p (by kernel_rfl)) rfl rfl ?_
         refine G_nil ?_
         refine G_then ?_
         refine G_join (st := fun j68 => ⟨⟨242, [(4, (bb j68.1)), (3, (.box [1002] 0)), (2, (bb false)), (1, (.box [1001] 0))]⟩, mkH [([1001], (.box (lRecT p_r))), ([1002], (.box [(ii p_r.Kind), (ii j68.2.1), (ii 0), (ii 0), (ii 0), (ii j68.2.2.1), (ii j68.2.2.2.1), (ii 0), (ii 0), (ii 0), (bb j68.2.2.2.2.1), (ii j68.2.2.2.2.2.1), (ii j68.2.2.2.2.2.2)]))]⟩) (fun j68 => ?_) (fun r69 hr69 => ?_)
         ·exact q_some fun h => ((QN_inB QN_then) : QN _ _) _ _ (by exact Sub_env ⟨.refl _, .refl _, .refl _, .refl _, trivial⟩) h
         ·refine G_cond (t := (p_r.Kind == 5)) (by kernel_rfl) (fun _ => ?_) (fun _ => ?_)
          ·refine G_seq ?_
           refine G_region ?_
           refine G_op [0] (v := (.box [1001] 10)) (E_p (by kernel_rfl)) rfl rfl ?_
           refine G_op [0] (v := (bb p_r.On)) (E_load (by kernel_rfl)) rfl rfl ?_
           refine G_op [0] (v := (.box [1002] 10)) (E_p (by kernel_rfl)) rfl rfl ?_
           refine G_op0 [0] (v := (.val (.tup []))) (E_store (b := [1002]) (o := 10) (cs := [(bb p_r.On)]) (cells := [(ii p_r.Kind), (ii 0), (ii 0), (ii 0), (ii 0), (ii 0), (ii 0), (ii 0), (ii 0), (ii 0), (bb false), (ii 0), (ii 0)]) (cells' := [(ii p_r.Kind), (ii 0), (ii 0), (ii 0), (ii 0), (ii 0), (ii 0), (ii 0), (ii 0), (ii 0), (bb p_r.On), (ii 0), (ii 0)]) (h' := [([1001], (.box (lRecT p_r))), ([1002], (.box [(ii p_r.Kind), (ii 0), (ii 0), (ii 0), (ii 0), (ii 0), (ii 0), (ii 0), (ii 0), (ii 0), (bb p_r.On), (ii 0), (ii 0)]))]) (by kernel_rfl) (by kernel_rfl) (by kernel_rfl) rfl (by kernel_rfl) (by kernel_rfl) (by kernel_rfl) (by kernel_rfl)) rfl ?_
           refine G_nil ?_
           refine G_then ?_
           refine G_subW (s0 := ⟨⟨242, [(4, (bb false)), (3, (.box [1002] 0)), (2, (bb false)), (1, (.box [1001] 0))]⟩, mkH [([1001], (.box (lRecT p_r))), ([1002], (.box [(ii p_r.Kind), (ii 0), (ii 0), (ii 0), (ii 0), (ii 0), (ii 0), (ii 0), (ii 0), (ii 0), (bb p_r.On), (ii 0), (ii 0)]))]⟩) (by exact Sub_env ⟨.refl _, .refl _, .refl _, .refl _, trivial⟩) ?_
           refine G_region ?_
           refine G_op [0] (v := (bb true)) (E_p (by kernel_rfl)) rfl rfl ?_
           refine G_nil ?_
           exact q_some fun h => ((QN_inB QN_then) : QN _ _) _ _ (by exact Sub_env ⟨.refl _, .refl _, .refl _, .refl _, trivial⟩) h
          ·refine G_seq ?_
           refine G_region ?_
           refine G_op [0] (v := (bb ((p_r.Kind == 6)))) (E_p (by kernel_rfl)) rfl rfl ?_
           refine G_op [0] (v := (bb ((p_r.Kind == 6)))) (E_p (by kernel_rfl)) rfl rfl ?_
           refine G_nil ?_
           refine G_then ?_
           refine G_join (st := fun j70 => ⟨⟨242, [(4, (bb j70.1)), (3, (.box [1002] 0)), (2, (bb false)), (1, (.box [1001] 0))]⟩, mkH [([1001], (.box (lRecT p_r))), ([1002], (.box [(ii p_r.Kind), (ii j70.2.1), (ii 0), (ii 0), (ii 0), (ii j70.2.2.1), (ii j70.2.2.2.1), (ii 0), (ii 0), (ii 0), (bb false), (ii j70.2.2.2.2.1), (ii j70.2.2.2.2.2)]))]⟩) (fun j70 => ?_) (fun r71 hr71 => ?_)
           ·exact q_some fun h => ((QN_inB QN_then) : QN _ _) _ _ (by exact Sub_env ⟨.refl _, .refl _, .refl _, .refl _, trivial⟩) h
           ·refine G_cond (t := (p_r.Kind == 6)) (by kernel_rfl) (fun _ => ?_) (fun _ => ?_)
            ·refine G_seq ?_
             refine G_region ?_
             refine G_op [0] (v := (.box [1001] 11)) (E_p (by kernel_rfl)) rfl rfl ?_
             refine G_op [0] (v := (ii p_r.Seq)) (E_load (by kernel_rfl)) rfl rfl ?_
             refine G_op [0] (v := (.box [1002] 11)) (E_p (by kernel_rfl)) rfl rfl ?_
             refine G_op0 [0] (v := (.val (.tup []))) (E_store (b := [1002]) (o := 11) (cs := [(ii p_r.Seq)]) (cells := [(ii p_r.Kind), (ii 0), (ii 0), (ii 0), (ii 0), (ii 0), (ii 0), (ii 0), (ii 0), (ii 0), (bb false), (ii 0), (ii 0)]) (cells' := [(ii p_r.Kind), (ii 0), (ii 0), (ii 0), (ii 0), (ii 0), (ii 0), (ii 0), (ii 0), (ii 0), (bb false), (ii p_r.Seq), (ii 0)]) (h' := [([1001], (.box (lRecT p_r))), ([1002], (.box [(ii p_r.Kind), (ii 0), (ii 0), (ii 0), (ii 0), (ii 0), (ii 0), (ii 0), (ii 0), (ii 0), (bb false), (ii p_r.Seq), (ii 0)]))]) (by kernel_rfl) (by kernel_rfl) (by kernel_rfl) rfl (by kernel_rfl) (by kernel_rfl) (by kernel_rfl) (by kernel_rfl)) rfl ?_
             refine G_nil ?_
             refine G_then ?_
             refine G_subW (s0 := ⟨⟨242, [(4, (bb false)), (3, (.box [1002] 0)), (2, (bb false)), (1, (.box [1001] 0))]⟩, mkH [([1001], (.box (lRecT p_r))), ([1002], (.box [(ii p_r.Kind), (ii 0), (ii 0), (ii 0), (ii 0), (ii 0), (ii 0), (ii 0), (ii 0), (ii 0), (bb false), (ii p_r.Seq), (ii 0)]))]⟩) (by exact Sub_env ⟨.refl _, .refl _, .refl _, .refl _, trivial⟩) ?_
             refine G_seq ?_
             refine G_region ?_
             refine G_op [0] (v := (.box [1001] 12)) (E_p (by kernel_rfl)) rfl rfl ?_
             refine G_op [0] (v := (ii p_r.What)) (E_load (by kernel_rfl)) rfl rfl ?_
             refine G_op [0] (v := (.box [1002] 12)) (E_p (by kernel_rfl)) rfl rfl ?_
             refine G_op0 [0] (v := (.val (.tup []))) (E_store (b := [1002]) (o := 12) (cs := [(ii p_r.What)]) (cells := [(ii p_r.Kind), (ii 0), (ii 0), (ii 0), (ii 0), (ii 0), (ii 0), (ii 0), (ii 0), (ii 0), (bb false), (ii p_r.Seq), (ii 0)]) (cells' := [(ii p_r.Kind), (ii 0), (ii 0), (ii 0), (ii 0), (ii 0), (ii 0), (ii 0), (ii 0), (ii 0), (bb false), (ii p_r.Seq), (ii p_r.What)]) (h' := [([1001], (.box (lRecT p_r))), ([1002], (.box [(ii p_r.Kind), (ii 0), (ii 0), (ii 0), (ii 0), (ii 0), (ii 0), (ii 0), (ii 0), (ii 0), (bb false), (ii p_r.Seq), (ii p_r.What)]))]) (by kernel_rfl) (by kernel_rfl) (by kernel_rfl) rfl (by kernel_rfl) (by kernel_rfl) (by kernel_rfl) (by kernel_rfl)) rfl ?_
             refine G_nil ?_
             refine G_then ?_
             refine G_seq ?_
             refine G_region ?_
             refine G_op [0] (v := (.box [1001] 1)) (E_p (by kernel_rfl)) rfl rfl ?_
             refine G_op [0] (v := (ii p_r.Order)) (E_load (by kernel_rfl)) rfl rfl ?_
             refine G_op [0] (v := (.box [1002] 1)) (E_p (by kernel_rfl)) rfl rfl ?_
             refine G_op0 [0] (v := (.val (.tup []))) (E_store (b := [1002]) (o := 1) (cs := [(ii p_r.Order)]) (cells := [(ii p_r.Kind), (ii 0), (ii 0), (ii 0), (ii 0), (ii 0), (ii 0), (ii 0), (ii 0), (ii 0), (bb false), (ii p_r.Seq), (ii p_r.What)]) (cells' := [(ii p_r.Kind), (ii p_r.Order), (ii 0), (ii 0), (ii 0), (ii 0), (ii 0), (ii 0), (ii 0), (ii 0), (bb false), (ii p_r.Seq), (ii p_r.What)]) (h' := [([1001], (.box (lRecT p_r))), ([1002], (.box [(ii p_r.Kind), (ii p_r.Order), (ii 0), (ii 0), (ii 0), (ii 0), (ii 0), (ii 0), (ii 0), (ii 0), (bb false), (ii p_r.Seq), (ii p_r.What)]))]) (by kernel_rfl) (by kernel_rfl) (by kernel_rfl) rfl (by kernel_rfl) (by kernel_rfl) (by kernel_rfl) (by kernel_rfl)) rfl ?_
             refine G_nil ?_
             refine G_then ?_
             refine G_seq ?_
             refine G_region ?_
             refine G_op [0] (v := (.box [1001] 11)) (E_p (by kernel_rfl)) rfl rfl ?_
             refine G_op [0] (v := (ii p_r.Seq)) (E_load (by kernel_rfl)) rfl rfl ?_
             refine G_op [0] (v := (bb ((decide (p_r.Seq > 0))))) (E_p (by kernel_rfl)) rfl rfl ?_
             refine G_op [0] (v := (bb ((decide (p_r.Seq > 0))))) (E_p (by kernel_rfl)) rfl rfl ?_
             refine G_pure (l := t66_17) (st := ⟨⟨242, [(191, (bb (((decide (p_r.Seq > 0)) && (decide (p_r.Seq ≤ 1000000000)))))), (4, (bb false)), (3, (.box [1002] 0)), (2, (bb false)), (1, (.box [1001] 0))]⟩, mkH [([1001], (.box (lRecT p_r))), ([1002], (.box [(ii p_r.Kind), (ii p_r.Order), (ii 0), (ii 0), (ii 0), (ii 0), (ii 0), (ii 0), (ii 0), (ii 0), (bb false), (ii p_r.Seq), (ii p_r.What)]))]⟩) ?_ (fun r74 => ?_)
             ·refine G_op [0] (v := (bb (((decide (p_r.Seq > 0)) && (decide (p_r.Seq ≤ 1000000000)))))) (E_p (by kernel_rfl)) rfl rfl ?_
              refine G_pure (l := t66_18) (st := ⟨⟨242, [(196, (bb ((((decide (p_r.Seq > 0)) && (decide (p_r.Seq ≤ 1000000000))) && (decide (p_r.What ≥ 1)))))), (4, (bb false)), (3, (.box [1002] 0)), (2, (bb false)), (1, (.box [1001] 0))]⟩, mkH [([1001], (.box (lRecT p_r))), ([1002], (.box [(ii p_r.Kind), (ii p_r.Order), (ii 0), (ii 0), (ii 0), (ii 0), (ii 0), (ii 0), (ii 0), (ii 0), (bb false), (ii p_r.Seq), (ii p_r.What)]))]⟩) ?_ (fun r77 => ?_)
              ·refine G_op [0] (v := (bb ((((decide (p_r.Seq > 0)) && (decide (p_r.Seq ≤ 1000000000))) && (decide (p_r.What ≥ 1)))))) (E_p (by kernel_rfl)) rfl rfl ?_
               refine G_pure (l := t66_19) (st := ⟨⟨242, [(201, (bb (((((decide (p_r.Seq > 0)) && (decide (p_r.Seq ≤ 1000000000))) && (decide (p_r.What ≥ 1))) && (decide (p_r.What ≤ 6)))))), (4, (bb false)), (3, (.box [1002] 0)), (2, (bb false)), (1, (.box [1001] 0))]⟩, mkH [([1001], (.box (lRecT p_r))), ([1002], (.box [(ii p_r.Kind), (ii p_r.Order), (ii 0), (ii 0), (ii 0), (ii 0), (ii 0), (ii 0), (ii 0), (ii 0), (bb false), (ii p_r.Seq), (ii p_r.What)]))]⟩) ?_ (fun r80 => ?_)
               ·refine G_op [0] (v := (bb (((((decide (p_r.Seq > 0)) && (decide (p_r.Seq ≤ 1000000000))) && (decide (p_r.What ≥ 1))) && (decide (p_r.What ≤ 6)))))) (E_p (by kernel_rfl)) rfl rfl ?_
                refine G_joinR (l := t66_20) (st := fun (b82 : Bool) => ⟨⟨242, [(206, (bb b82)), (4, (bb false)), (3, (.box [1002] 0)), (2, (bb false)), (1, (.box [1001] 0))]⟩, mkH [([1001], (.box (lRecT p_r))), ([1002], (.box [(ii p_r.Kind), (ii p_r.Order), (ii 0), (ii 0), (ii 0), (ii 0), (ii 0), (ii 0), (ii 0), (ii 0), (bb false), (ii p_r.Seq), (ii p_r.What)]))]⟩) (fun b82 => ?_) (fun r83 hr83 => ?_)
                ·refine G_op [0] (v := (bb b82)) (E_p (by kernel_rfl)) rfl rfl ?_
                 refine G_nil ?_
                 refine G_then ?_
                 refine G_seq ?_
                 refine G_seq ?_
                 refine G_region ?_
                 refine G_op [0] (v := (.box [1001] 12)) (E_p (by kernel_rfl)) rfl rfl ?_
                 refine G_op [0] (v := (ii p_r.What)) (E_load (by kernel_rfl)) rfl rfl ?_
                 refine G_op [0] (v := (bb ((p_r.What == 3)))) (E_p (by kernel_rfl)) rfl rfl ?_
                 refine G_op [0] (v := (bb ((p_r.What == 3)))) (E_p (by kernel_rfl)) rfl rfl ?_
                 refine G_pure (l := []) (st := ⟨⟨242, [(214, (bb (((p_r.What == 3) || (p_r.What == 5))))), (4, (bb b82)), (3, (.box [1002] 0)), (2, (bb false)), (1, (.box [1001] 0))]⟩, mkH [([1001], (.box (lRecT p_r))), ([1002], (.box [(ii p_r.Kind), (ii p_r.Order), (ii 0), (ii 0), (ii 0), (ii 0), (ii 0), (ii 0), (ii 0), (ii 0), (bb false), (ii p_r.Seq), (ii p_r.What)]))]⟩) ?_ (fun r86 => ?_)
                 ·refine G_nil ?_
                  refine G_then ?_
                  refine G_join (st := fun j87 => ⟨⟨242, [(4, (bb j87.1)), (3, (.box [1002] 0)), (2, (bb false)), (1, (.box [1001] 0))]⟩, mkH [([1001], (.box (lRecT p_r))), ([1002], (.box [(ii p_r.Kind), (ii p_r.Order), (ii 0), (ii 0), (ii 0), (ii j87.2), (ii 0), (ii 0), (ii 0), (ii 0), (bb false), (ii p_r.Seq), (ii p_r.What)]))]⟩) (fun j87 => ?_) (fun r88 hr88 => ?_)
                  ·refine G_then ?_
                   refine G_seq ?_
                   refine G_region ?_
                   refine G_op [0] (v := (.box [1001] 12)) (E_p (by kernel_rfl)) rfl rfl ?_
                   refine G_op [0] (v := (ii p_r.What)) (E_load (by kernel_rfl)) rfl rfl ?_
                   refine G_op [0] (v := (bb ((p_r.What == 5)))) (E_p (by kernel_rfl)) rfl rfl ?_
                   refine G_nil ?_
                   refine G_then ?_
                   refine G_join (st := fun j92 => ⟨⟨242, [(4, (bb j92.1)), (3, (.box [1002] 0)), (2, (bb false)), (1, (.box [1001] 0))]⟩, mkH [([1001], (.box (lRecT p_r))), ([1002], (.box [(ii p_r.Kind), (ii p_r.Order), (ii 0), (ii 0), (ii 0), (ii j87.2), (ii j92.2), (ii 0), (ii 0), (ii 0), (bb false), (ii p_r.Seq), (ii p_r.What)]))]⟩) (fun j92 => ?_) (fun r93 hr93 => ?_)
                   ·exact q_some fun h => ((QN_inB QN_then) : QN _ _) _ _ (by exact Sub_env ⟨.refl _, .refl _, .refl _, .refl _, trivial⟩) h
                   ·refine G_cond (t := (p_r.What == 5)) (by kernel_rfl) (fun _ => ?_) (fun _ => ?_)
                    ·refine G_seq ?_
                     refine G_region ?_
                     refine G_op [0] (v := (.box [1001] 6)) (E_p (by kernel_rfl)) rfl rfl ?_
                     refine G_op [0] (v := (ii p_r.Price)) (E_load (by kernel_rfl)) rfl rfl ?_
                     refine G_op [0] (v := (.box [1002] 6)) (E_p (by kernel_rfl)) rfl rfl ?_
                     refine G_op0 [0] (v := (.val (.tup []))) (E_store (b := [1002]) (o := 6) (cs := [(ii p_r.Price)]) (cells := [(ii p_r.Kind), (ii p_r.Order), (ii 0), (ii 0), (ii 0), (ii j87.2), (ii 0), (ii 0), (ii 0), (ii 0), (bb false), (ii p_r.Seq), (ii p_r.What)]) (cells' := [(ii p_r.Kind), (ii p_r.Order), (ii 0), (ii 0), (ii 0), (ii j87.2), (ii p_r.Price), (ii 0), (ii 0), (ii 0), (bb false), (ii p_r.Seq), (ii p_r.What)]) (h' := [([1001], (.box (lRecT p_r))), ([1002], (.box [(ii p_r.Kind), (ii p_r.Order), (ii 0), (ii 0), (ii 0), (ii j87.2), (ii p_r.Price), (ii 0), (ii 0), (ii 0), (bb false), (ii p_r.Seq), (ii p_r.What)]))]) (by kernel_rfl) (by kernel_rfl) (by kernel_rfl) rfl (by kernel_rfl) (by kernel_rfl) (by kernel_rfl) (by kernel_rfl)) rfl ?_
                     refine G_nil ?_
                     refine G_then ?_
                     refine G_region ?_
                     refine G_op [0] (v := (bb j87.1)) (E_p (by kernel_rfl)) rfl rfl ?_
                     refine G_op [0] (v := (bb j87.1)) (E_p (by kernel_rfl)) rfl rfl ?_
                     refine G_pure (l := t66_22) (st := ⟨⟨242, [(235, (bb ((j87.1 && (decide (p_r.Price > 0)))))), (4, (bb j87.1)), (3, (.box [1002] 0)), (2, (bb false)), (1, (.box [1001] 0))]⟩, mkH [([1001], (.box (lRecT p_r))), ([1002], (.box [(ii p_r.Kind), (ii p_r.Order), (ii 0), (ii 0), (ii 0), (ii j87.2), (ii p_r.Price), (ii 0), (ii 0), (ii 0), (bb false), (ii p_r.Seq), (ii p_r.What)]))]⟩) ?_ (fun r96 => ?_)
                     ·refine G_op [0] (v := (bb ((j87.1 && (decide (p_r.Price > 0)))))) (E_p (by kernel_rfl)) rfl rfl ?_
                      refine G_nil ?_
                      exact q_some fun h => ((QN_inB QN_then) : QN _ _) _ _ (by exact Sub_env ⟨.refl _, .refl _, .refl _, .refl _, trivial⟩) h
                     ·refine q_two j87.1 (fun h94 => ?_) (fun h94 => ?_)
                      ·refine G_subR (Sub_lit (t := 231) (v := true) rfl h94) ?_
                       refine G_op [0] (v := (.box [1001] 6)) (E_p (by kernel_rfl)) rfl rfl ?_
                       refine G_op [0] (v := (ii p_r.Price)) (E_load (by kernel_rfl)) rfl rfl ?_
                       refine G_op [0] (v := (bb ((decide (p_r.Price > 0))))) (E_p (by kernel_rfl)) rfl rfl ?_
                       refine G_op [0] (v := (bb ((decide (p_r.Price > 0))))) (E_p (by kernel_rfl)) rfl rfl ?_
                       exact q_some fun h => RP_sub (by exact Sub_env ⟨(Wk_and1 h94), .refl _, .refl _, .refl _, .refl _, trivial⟩) h
                      ·refine G_subR (Sub_lit (t := 231) (v := false) rfl h94) ?_
                       refine G_off rfl rfl ?_
                       refine G_off rfl rfl ?_
                       refine G_off rfl rfl ?_
                       refine G_op [0] (v := (bb false)) (E_p (by kernel_rfl)) rfl rfl ?_
                       exact q_some fun h => RP_sub (by exact Sub_env ⟨(Wk_and0 h94), .refl _, .refl _, .refl _, .refl _, trivial⟩) h
                    ·refine G_skip ?_
                     exact q_some fun h => ((QN_inB QN_then) : QN _ _) _ _ (by exact Sub_env ⟨.refl _, .refl _, .refl _, .refl _, trivial⟩) h
                  ·refine G_cond (t := ((p_r.What == 3) || (p_r.What == 5))) (by kernel_rfl) (fun _ => ?_) (fun _ => ?_)
                   ·refine G_seq ?_
                    refine G_region ?_
                    refine G_op [0] (v := (.box [1001] 5)) (E_p (by kernel_rfl)) rfl rfl ?_
                    refine G_op [0] (v := (ii p_r.Qty)) (E_load (by kernel_rfl)) rfl rfl ?_
                    refine G_op [0] (v := (.box [1002] 5)) (E_p (by kernel_rfl)) rfl rfl ?_
                    refine G_op0 [0] (v := (.val (.tup []))) (E_store (b := [1002]) (o := 5) (cs := [(ii p_r.Qty)]) (cells := [(ii p_r.Kind), (ii p_r.Order), (ii 0), (ii 0), (ii 0), (ii 0), (ii 0), (ii 0), (ii 0), (ii 0), (bb false), (ii p_r.Seq), (ii p_r.What)]) (cells' := [(ii p_r.Kind), (ii p_r.Order), (ii 0), (ii 0), (ii 0), (ii p_r.Qty), (ii 0), (ii 0), (ii 0), (ii 0), (bb false), (ii p_r.Seq), (ii p_r.What)]) (h' := [([1001], (.box (lRecT p_r))), ([1002], (.box [(ii p_r.Kind), (ii p_r.Order), (ii 0), (ii 0), (ii 0), (ii p_r.Qty), (ii 0), (ii 0), (ii 0), (ii 0), (bb false), (ii p_r.Seq), (ii p_r.What)]))]) (by kernel_rfl) (by kernel_rfl) (by kernel_rfl) rfl (by kernel_rfl) (by kernel_rfl) (by kernel_rfl) (by kernel_rfl)) rfl ?_
                    refine G_nil ?_
                    refine G_then ?_
                    refine G_region ?_
                    refine G_op [0] (v := (bb b82)) (E_p (by kernel_rfl)) rfl rfl ?_
                    refine G_op [0] (v := (bb b82)) (E_p (by kernel_rfl)) rfl rfl ?_
                    refine G_pure (l := t66_21) (st := ⟨⟨242, [(223, (bb ((b82 && (decide (p_r.Qty > 0)))))), (4, (bb b82)), (3, (.box [1002] 0)), (2, (bb false)), (1, (.box [1001] 0))]⟩, mkH [([1001], (.box (lRecT p_r))), ([1002], (.box [(ii p_r.Kind), (ii p_r.Order), (ii 0), (ii 0), (ii 0), (ii p_r.Qty), (ii 0), (ii 0), (ii 0), (ii 0), (bb false), (ii p_r.Seq), (ii p_r.What)]))]⟩) ?_ (fun r91 => ?_)
                    ·refine G_op [0] (v := (bb ((b82 && (decide (p_r.Qty > 0)))))) (E_p (by kernel_rfl)) rfl rfl ?_
                     refine G_nil ?_
                     exact q_some fun h => (QN_then : QN _ _) _ _ (by exact Sub_env ⟨.refl _, .refl _, .refl _, .refl _, trivial⟩) h
                    ·refine q_two b82 (fun h89 => ?_) (fun h89 => ?_)
                     ·refine G_subR (Sub_lit (t := 219) (v := true) rfl h89) ?_
                      refine G_op [0] (v := (.box [1001] 5)) (E_p (by kernel_rfl)) rfl rfl ?_
                      refine G_op [0] (v := (ii p_r.Qty)) (E_load (by kernel_rfl)) rfl rfl ?_
                      refine G_op [0] (v := (bb ((decide (p_r.Qty > 0))))) (E_p (by kernel_rfl)) rfl rfl ?_
                      refine G_op [0] (v := (bb ((decide (p_r.Qty > 0))))) (E_p (by kernel_rfl)) rfl rfl ?_
                      exact q_some fun h => RP_sub (by exact Sub_env ⟨(Wk_and1 h89), .refl _, .refl _, .refl _, .refl _, trivial⟩) h
                     ·refine G_subR (Sub_lit (t := 219) (v := false) rfl h89) ?_
                      refine G_off rfl rfl ?_
                      refine G_off rfl rfl ?_
                      refine G_off rfl rfl ?_
                      refine G_op [0] (v := (bb false)) (E_p (by kernel_rfl)) rfl rfl ?_
                      exact q_some fun h => RP_sub (by exact Sub_env ⟨(Wk_and0 h89), .refl _, .refl _, .refl _, .refl _, trivial⟩) h
                   ·refine G_skip ?_
                    exact q_some fun h => (QN_then : QN _ _) _ _ (by exact Sub_env ⟨.refl _, .refl _, .refl _, .refl _, trivial⟩) h
                 ·refine q_two (p_r.What == 3) (fun h84 => ?_) (fun h84 => ?_)
                  ·refine G_subR (Sub_lit (t := 210) (v := true) rfl h84) ?_
                   refine G_off rfl rfl ?_
                   refine G_off rfl rfl ?_
                   refine G_off rfl rfl ?_
                   refine G_op [0] (v := (bb true)) (E_p (by kernel_rfl)) rfl rfl ?_
                   exact q_some fun h => RP_sub (by exact Sub_env ⟨(Wk_or1 h84), .refl _, .refl _, .refl _, .refl _, trivial⟩) h
                  ·refine G_subR (Sub_lit (t := 210) (v := false) rfl h84) ?_
                   refine G_op [0] (v := (.box [1001] 12)) (E_p (by kernel_rfl)) rfl rfl ?_
                   refine G_op [0] (v := (ii p_r.What)) (E_load (by kernel_rfl)) rfl rfl ?_
                   refine G_op [0] (v := (bb ((p_r.What == 5)))) (E_p (by kernel_rfl)) rfl rfl ?_
                   refine G_op [0] (v := (bb ((p_r.What == 5)))) (E_p (by kernel_rfl)) rfl rfl ?_
                   exact q_some fun h => RP_sub (by exact Sub_env ⟨(Wk_or0 h84), .refl _, .refl _, .refl _, .refl _, trivial⟩) h
                ·refine q_bif (fun h81 => ?_) (fun h81 => ?_)
                 ·refine G_subR (Sub_lit (t := 202) (v := true) rfl h81) ?_
                  refine G_op [0] (v := (.box [1001] 1)) (E_p (by kernel_rfl)) rfl rfl ?_
                  refine G_op [0] (v := (ii p_r.Order)) (E_load (by kernel_rfl)) rfl rfl ?_
                  refine q_bind fun v97 hv97 => ?_
                  refine G_op [0] (v := (bb v97)) (E_call (ds := [.int .i64 p_r.Order]) (r := .bool v97) hc84 (by kernel_rfl) ((hs84 p_r.Order _ (by kernel_rfl)).trans (congrArg _ hv97))) rfl rfl ?_
                  refine G_op [0] (v := (bb v97)) (E_p (by kernel_rfl)) rfl rfl ?_
                  exact q_some fun h => RP_sub (by exact Sub_env ⟨.refl _, .refl _, .refl _, .refl _, .refl _, trivial⟩) h
                 ·refine G_subR (Sub_lit (t := 202) (v := false) rfl h81) ?_
                  refine G_off rfl rfl ?_
                  refine G_off rfl rfl ?_
                  refine G_off rfl rfl ?_
                  refine G_op [0] (v := (bb false)) (E_p (by kernel_rfl)) rfl rfl ?_
                  exact q_some fun h => RP_sub (by exact Sub_env ⟨.refl _, .refl _, .refl _, .refl _, .refl _, trivial⟩) h
               ·refine q_two (((decide (p_r.Seq > 0)) && (decide (p_r.Seq ≤ 1000000000))) && (decide (p_r.What ≥ 1))) (fun h78 => ?_) (fun h78 => ?_)
                ·refine G_subR (Sub_lit (t := 197) (v := true) rfl h78) ?_
                 refine G_op [0] (v := (.box [1001] 12)) (E_p (by kernel_rfl)) rfl rfl ?_
                 refine G_op [0] (v := (ii p_r.What)) (E_load (by kernel_rfl)) rfl rfl ?_
                 refine G_op [0] (v := (bb ((decide (p_r.What ≤ 6))))) (E_p (by kernel_rfl)) rfl rfl ?_
                 refine G_op [0] (v := (bb ((decide (p_r.What ≤ 6))))) (E_p (by kernel_rfl)) rfl rfl ?_
                 exact q_some fun h => RP_sub (by exact Sub_env ⟨(Wk_and1 h78), .refl _, .refl _, .refl _, .refl _, trivial⟩) h
                ·refine G_subR (Sub_lit (t := 197) (v := false) rfl h78) ?_
                 refine G_off rfl rfl ?_
                 refine G_off rfl rfl ?_
                 refine G_off rfl rfl ?_
                 refine G_op [0] (v := (bb false)) (E_p (by kernel_rfl)) rfl rfl ?_
                 exact q_some fun h => RP_sub (by exact Sub_env ⟨(Wk_and0 h78), .refl _, .refl _, .refl _, .refl _, trivial⟩) h
              ·refine q_two ((decide (p_r.Seq > 0)) && (decide (p_r.Seq ≤ 1000000000))) (fun h75 => ?_) (fun h75 => ?_)
               ·refine G_subR (Sub_lit (t := 192) (v := true) rfl h75) ?_
                refine G_op [0] (v := (.box [1001] 12)) (E_p (by kernel_rfl)) rfl rfl ?_
                refine G_op [0] (v := (ii p_r.What)) (E_load (by kernel_rfl)) rfl rfl ?_
                refine G_op [0] (v := (bb ((decide (p_r.What ≥ 1))))) (E_p (by kernel_rfl)) rfl rfl ?_
                refine G_op [0] (v := (bb ((decide (p_r.What ≥ 1))))) (E_p (by kernel_rfl)) rfl rfl ?_
                exact q_some fun h => RP_sub (by exact Sub_env ⟨(Wk_and1 h75), .refl _, .refl _, .refl _, .refl _, trivial⟩) h
               ·refine G_subR (Sub_lit (t := 192) (v := false) rfl h75) ?_
                refine G_off rfl rfl ?_
                refine G_off rfl rfl ?_
                refine G_off rfl rfl ?_
                refine G_op [0] (v := (bb false)) (E_p (by kernel_rfl)) rfl rfl ?_
                exact q_some fun h => RP_sub (by exact Sub_env ⟨(Wk_and0 h75), .refl _, .refl _, .refl _, .refl _, trivial⟩) h
             ·refine q_two (decide (p_r.Seq > 0)) (fun h72 => ?_) (fun h72 => ?_)
              ·refine G_subR (Sub_lit (t := 187) (v := true) rfl h72) ?_
               refine G_op [0] (v := (.box [1001] 11)) (E_p (by kernel_rfl)) rfl rfl ?_
               refine G_op [0] (v := (ii p_r.Seq)) (E_load (by kernel_rfl)) rfl rfl ?_
               refine G_op [0] (v := (bb ((decide (p_r.Seq ≤ 1000000000))))) (E_p (by kernel_rfl)) rfl rfl ?_
               refine G_op [0] (v := (bb ((decide (p_r.Seq ≤ 1000000000))))) (E_p (by kernel_rfl)) rfl rfl ?_
               exact q_some fun h => RP_sub (by exact Sub_env ⟨(Wk_and1 h72), .refl _, .refl _, .refl _, .refl _, trivial⟩) h
              ·refine G_subR (Sub_lit (t := 187) (v := false) rfl h72) ?_
               refine G_off rfl rfl ?_
               refine G_off rfl rfl ?_
               refine G_off rfl rfl ?_
               refine G_op [0] (v := (bb false)) (E_p (by kernel_rfl)) rfl rfl ?_
               exact q_some fun h => RP_sub (by exact Sub_env ⟨(Wk_and0 h72), .refl _, .refl _, .refl _, .refl _, trivial⟩) h
            ·refine G_skip ?_
             exact q_some fun h => ((QN_inB QN_then) : QN _ _) _ _ (by exact Sub_env ⟨.refl _, .refl _, .refl _, .refl _, trivial⟩) h
theorem s66 (x0 : RecT) (ds : List DV) (hd : List.map z1 ds = List.map z1 [.agg (e_RecT x0)]) : sp66 ds = (g_snaffleref06_Right x0).map fun r => .bool r :=
 specT_at (ea := fun (a : RecT) => [.agg (e_RecT a)]) (eb := fun (r : Bool) => .bool r) (g := fun (a : RecT) => g_snaffleref06_Right a) inj66 x0 hd

def k40_0 : ACode := (.region (⟨(some 6), (.p (.foff 0 (.t 1))), none⟩ :: ⟨(some 7), (.r (.load 1 false (.t 6))), none⟩ :: ⟨(some 8), (.p (.bin .neq (.t 7) (.c (.int .i64 1)))), none⟩ :: ⟨(some 9), (.p (.mv (.t 8))), none⟩ :: ⟨(some 10), (.r (.load 13 true (.t 1))), (some (9, false))⟩ :: ⟨(some 11), (.r (.call 66 [(.t 10)])), (some (9, false))⟩ :: ⟨(some 12), (.p (.un .not (.t 11))), (some (9, false))⟩ :: ⟨(some 13), (.p (.pick (.t 9) (.c (.bool true)) (.t 12))), none⟩ :: []))
def k40_1 : ACode := (.seq (.region (⟨(some 14), (.r (.load 12 true (.t 4))), none⟩ :: ⟨none, (.w (.store 12 (.t 2) (.t 14))), none⟩ :: ⟨(some 3), (.p (.mv (.c (.bool false)))), none⟩ :: [])) .ret)
def k40_2 : ACode := (.cond (.t 13) k40_1 .skip)
def k40_3 : ACode := (.seq k40_0 k40_2)
def k40_4 : ACode := (.region (⟨(some 15), (.p (.foff 1 (.t 1))), none⟩ :: ⟨(some 16), (.r (.load 1 false (.t 15))), none⟩ :: ⟨(some 17), (.p (.foff 0 (.t 4))), none⟩ :: ⟨none, (.w (.store 1 (.t 17) (.t 16))), none⟩ :: []))
def k40_5 : ACode := (.region (⟨(some 18), (.p (.foff 2 (.t 1))), none⟩ :: ⟨(some 19), (.r (.load 1 false (.t 18))), none⟩ :: ⟨(some 20), (.p (.foff 1 (.t 4))), none⟩ :: ⟨none, (.w (.store 1 (.t 20) (.t 19))), none⟩ :: []))
def k40_6 : ACode := (.region (⟨(some 21), (.p (.foff 3 (.t 1))), none⟩ :: ⟨(some 22), (.r (.load 1 false (.t 21))), none⟩ :: ⟨(some 23), (.p (.foff 2 (.t 4))), none⟩ :: ⟨none, (.w (.store 1 (.t 23) (.t 22))), none⟩ :: []))
def k40_7 : ACode := (.region (⟨(some 24), (.p (.foff 4 (.t 1))), none⟩ :: ⟨(some 25), (.r (.load 1 false (.t 24))), none⟩ :: ⟨(some 26), (.p (.foff 3 (.t 4))), none⟩ :: ⟨none, (.w (.store 1 (.t 26) (.t 25))), none⟩ :: []))
def k40_8 : ACode := (.region (⟨(some 27), (.p (.foff 5 (.t 1))), none⟩ :: ⟨(some 28), (.r (.load 1 false (.t 27))), none⟩ :: ⟨(some 29), (.p (.foff 4 (.t 4))), none⟩ :: ⟨none, (.w (.store 1 (.t 29) (.t 28))), none⟩ :: []))
def k40_9 : ACode := (.region (⟨(some 30), (.p (.foff 6 (.t 1))), none⟩ :: ⟨(some 31), (.r (.load 1 false (.t 30))), none⟩ :: ⟨(some 32), (.p (.foff 5 (.t 4))), none⟩ :: ⟨none, (.w (.store 1 (.t 32) (.t 31))), none⟩ :: []))
def k40_10 : ACode := (.seq (.region (⟨(some 34), (.r (.load 12 true (.t 4))), none⟩ :: ⟨none, (.w (.store 12 (.t 2) (.t 34))), none⟩ :: ⟨(some 3), (.p (.mv (.c (.bool true)))), none⟩ :: [])) .ret)
def k40_11 : ACode := (.seq (.region (⟨(some 33), (.p (.foff 7 (.t 4))), none⟩ :: ⟨none, (.w (.store 1 (.t 33) (.c (.int .i64 1)))), none⟩ :: [])) k40_10)
def k40_12 : ACode := (.seq k40_9 k40_11)
def k40_13 : ACode := (.seq k40_8 k40_12)
def k40_14 : ACode := (.seq k40_7 k40_13)
def k40_15 : ACode := (.seq k40_6 k40_14)
def k40_16 : ACode := (.seq k40_5 k40_15)
def k40_17 : ACode := (.seq k40_4 k40_16)
def k40_18 : ACode := (.seq k40_3 k40_17)
def k40_19 : ACode := (.seq (.region (⟨(some 5), (.p (.build [(.int .i64 0), (.int .i64 0), (.int .i64 0), (.int .i64 0), (.int .i64 0), (.int .i64 0), (.int .i64 0), (.int .i64 0), (.int .i64 0), (.int .i64 0), (.int .i64 0), (.bool false)] [])), none⟩ :: ⟨(some 4), (.a (.alloc [(.int .i64 0), (.int .i64 0), (.int .i64 0), (.int .i64 0), (.int .i64 0), (.int .i64 0), (.int .i64 0), (.int .i64 0), (.int .i64 0), (.int .i64 0), (.int .i64 0), (.bool false)])), none⟩ :: ⟨none, (.w (.store 12 (.t 4) (.t 5))), none⟩ :: [])) k40_18)
def cd40 : ACode := (.seq (.region (⟨(some 1), (.a (.bx (.t 0))), none⟩ :: ⟨(some 2), (.a (.alloc [(.int .i64 0), (.int .i64 0), (.int .i64 0), (.int .i64 0), (.int .i64 0), (.int .i64 0), (.int .i64 0), (.int .i64 0), (.int .i64 0), (.int .i64 0), (.int .i64 0), (.bool false)])), none⟩ :: ⟨(some 3), (.p (.mv (.c (.bool false)))), none⟩ :: [])) k40_19)
def rs40 : List ARes := [(.cell 2 12 true), (.tmp 3)]
def af40 : AFn := ⟨cd40, rs40, 35⟩
theorem c40 : compF Try.prog 40 = some af40 := by kernel_rfl
noncomputable def g_snaffleref07_Begin (p_r : RecT) : Option (OrderT × Bool) := (Option.bind (bif (p_r.Kind != 1) then (some true) else (Option.bind (g_snaffleref06_Right p_r) fun v4 => (some (!v4)))) fun (b2 : Bool) => (bif b2 then (some ((OrderT.mk 0 0 0 0 0 0 0 0 0 0 0 false), false)) else (some ((OrderT.mk p_r.Order p_r.Account p_r.Symbol p_r.Side p_r.Qty p_r.Price 0 1 0 0 0 false), true))))
noncomputable def sp40 : List DV → Option DV := specT (fun (a : RecT) => [.agg (e_RecT a)]) (fun (r : (OrderT × Bool)) => .tup [.agg (e_OrderT r.1), .bool r.2]) (fun (a : RecT) => g_snaffleref07_Begin a)
theorem inj40 : ∀ (a b : RecT), List.map z1 ((fun (a : RecT) => [.agg (e_RecT a)]) a) = List.map z1 ((fun (a : RecT) => [.agg (e_RecT a)]) b) → a = b := by
 intro a0 b0 h
 simp only [List.map_cons, List.map_nil, List.cons.injEq, and_true] at h
 exact (e_RecT_inj (DV.agg.inj h))
set_option maxHeartbeats 1000000 in
theorem w40 {C : FuncId → Con} (hC : ConOk Try.prog C) {q66 : List DV → Option DV} (hc66 : C 66 = .val q66) (hs66 : ∀ (x0 : RecT) (ds : List DV), List.map z1 ds = List.map z1 [.agg (e_RecT x0)] → q66 ds = (g_snaffleref06_Right x0).map fun r => .bool r) : ValOk Try.prog 40 sp40 := by
 refine valT_of hC c40 _ _ _ inj40 ?_
 intro p_r
 show Imq (g_snaffleref07_Begin p_r) (fun _ => True) fun r => WP Try.prog C (fun _ => False) cd40 (retQ fun s => outV s rs40 = some (.tup [.agg (e_OrderT r.1), .bool r.2])) ⟨⟨35, [(0, (.val (.agg [(.int .i64 p_r.Kind), (.int .i64 p_r.Order), (.int .i64 p_r.Account), (.int .i64 p_r.Symbol), (.int .i64 p_r.Side), (.int .i64 p_r.Qty), (.int .i64 p_r.Price), (.int .i64 p_r.Long), (.int .i64 p_r.Short), (.int .i64 p_r.Open), (.bool p_r.On), (.int .i64 p_r.Seq), (.int .i64 p_r.What)])))]⟩, mkH []⟩
 unfold g_snaffleref07_Begin
 refine G_seq ?_
 refine G_region ?_
 refine G_op [1001] (v := (.box [1001] 0)) (E_a (u := (.box [1001] 0)) (b := (.box (lRecT p_r))) (h' := [([1001], (.box (lRecT p_r)))]) (by kernel_rfl) (by kernel_rfl) (by kernel_rfl)) rfl rfl ?_
 refine G_op [1002] (v := (.box [1002] 0)) (E_a (u := (.box [1002] 0)) (b := (.box zOrderT)) (h' := [([1001], (.box (lRecT p_r))), ([1002], (.box zOrderT))]) (by kernel_rfl) (by kernel_rfl) (by kernel_rfl)) rfl rfl ?_
 refine G_op [0] (v := (bb false)) (E_p (by kernel_rfl)) rfl rfl ?_
 refine G_nil ?_
 refine G_then ?_
 refine G_seq ?_
 refine G_region ?_
 refine G_op [0] (v := (.agg zOrderT)) (E_p (by kernel_rfl)) rfl rfl ?_
 refine G_op [1003] (v := (.box [1003] 0)) (E_a (u := (.box [1003] 0)) (b := (.box zOrderT)) (h' := [([1001], (.box (lRecT p_r))), ([1002], (.box zOrderT)), ([1003], (.box zOrderT))]) (by kernel_rfl) (by kernel_rfl) (by kernel_rfl)) rfl rfl ?_
 refine G_op0 [0] (v := (.val (.tup []))) (E_store (b := [1003]) (o := 0) (cs := zOrderT) (cells := zOrderT) (cells' := zOrderT) (h' := [([1001], (.box (lRecT p_r))), ([1002], (.box zOrderT)), ([1003], (.box zOrderT))]) (by kernel_rfl) (by kernel_rfl) (by kernel_rfl) rfl (by kernel_rfl) (by kernel_rfl) (by kernel_rfl) (by kernel_rfl)) rfl ?_
 refine G_nil ?_
 refine G_then ?_
 refine G_seq ?_
 refine G_seq ?_
 refine G_region ?_
 refine G_op [0] (v := (.box [1001] 0)) (E_p (by kernel_rfl)) rfl rfl ?_
 refine G_op [0] (v := (ii p_r.Kind)) (E_load (by kernel_rfl)) rfl rfl ?_
 refine G_op [0] (v := (bb ((p_r.Kind != 1)))) (E_p (by kernel_rfl)) rfl rfl ?_
 refine G_op [0] (v := (bb ((p_r.Kind != 1)))) (E_p (by kernel_rfl)) rfl rfl ?_
 refine G_joinR (l := []) (st := fun (b2 : Bool) => ⟨⟨35, [(13, (bb b2)), (4, (.box [1003] 0)), (3, (bb false)), (2, (.box [1002] 0)), (1, (.box [1001] 0))]⟩, mkH [([1001], (.box (lRecT p_r))), ([1002], (.box zOrderT)), ([1003], (.box zOrderT))]⟩) (fun b2 => ?_) (fun r3 hr3 => ?_)
 ·refine G_nil ?_
  refine G_then ?_
  refine G_cond (t := b2) (by kernel_rfl) (fun _ => ?_) (fun _ => ?_)
  ·refine G_seq ?_
   refine G_region ?_
   refine G_op [0] (v := (.agg zOrderT)) (E_load (by kernel_rfl)) rfl rfl ?_
   refine G_op0 [0] (v := (.val (.tup []))) (E_store (b := [1002]) (o := 0) (cs := zOrderT) (cells := zOrderT) (cells' := zOrderT) (h' := [([1001], (.box (lRecT p_r))), ([1002], (.box zOrderT)), ([1003], (.box zOrderT))]) (by kernel_rfl) (by kernel_rfl) (by kernel_rfl) rfl (by kernel_rfl) (by kernel_rfl) (by kernel_rfl) (by kernel_rfl)) rfl ?_
   refine G_op [0] (v := (bb false)) (E_p (by kernel_rfl)) rfl rfl ?_
   refine G_nil ?_
   refine G_then ?_
   refine G_ret ?_
   refine G_thenR ?_
   refine G_retR ?_
   refine q_some fun hA => ?_
   show outV _ _ = some _
   kernel_rfl
  ·refine G_skip ?_
   refine G_then ?_
   refine G_seq ?_
   refine G_region ?_
   refine G_op [0] (v := (.box [1001] 1)) (E_p (by kernel_rfl)) rfl rfl ?_
   refine G_op [0] (v := (ii p_r.Order)) (E_load (by kernel_rfl)) rfl rfl ?_
   refine G_op [0] (v := (.box [1003] 0)) (E_p (by kernel_rfl)) rfl rfl ?_
   refine G_op0 [0] (v := (.val (.tup []))) (E_store (b := [1003]) (o := 0) (cs := [(ii p_r.Order)]) (cells := zOrderT) (cells' := [(ii p_r.Order), (ii 0), (ii 0), (ii 0), (ii 0), (ii 0), (ii 0), (ii 0), (ii 0), (ii 0), (ii 0), (bb false)]) (h' := [([1001], (.box (lRecT p_r))), ([1002], (.box zOrderT)), ([1003], (.box [(ii p_r.Order), (ii 0), (ii 0), (ii 0), (ii 0), (ii 0), (ii 0), (ii 0), (ii 0), (ii 0), (ii 0), (bb false)]))]) (by kernel_rfl) (by kernel_rfl) (by kernel_rfl) rfl (by kernel_rfl) (by kernel_rfl) (by kernel_rfl) (by kernel_rfl)) rfl ?_
   refine G_nil ?_
   refine G_then ?_
   refine G_seq ?_
   refine G_region ?_
   refine G_op [0] (v := (.box [1001] 2)) (E_p (by kernel_rfl)) rfl rfl ?_
   refine G_op [0] (v := (ii p_r.Account)) (E_load (by kernel_rfl)) rfl rfl ?_
   refine G_op [0] (v := (.box [1003] 1)) (E_p (by kernel_rfl)) rfl rfl ?_
   refine G_op0 [0] (v := (.val (.tup []))) (E_store (b := [1003]) (o := 1) (cs := [(ii p_r.Account)]) (cells := [(ii p_r.Order), (ii 0), (ii 0), (ii 0), (ii 0), (ii 0), (ii 0), (ii 0), (ii 0), (ii 0), (ii 0), (bb false)]) (cells' := [(ii p_r.Order), (ii p_r.Account), (ii 0), (ii 0), (ii 0), (ii 0), (ii 0), (ii 0), (ii 0), (ii 0), (ii 0), (bb false)]) (h' := [([1001], (.box (lRecT p_r))), ([1002], (.box zOrderT)), ([1003], (.box [(ii p_r.Order), (ii p_r.Account), (ii 0), (ii 0), (ii 0), (ii 0), (ii 0), (ii 0), (ii 0), (ii 0), (ii 0), (bb false)]))]) (by kernel_rfl) (by kernel_rfl) (by kernel_rfl) rfl (by kernel_rfl) (by kernel_rfl) (by kernel_rfl) (by kernel_rfl)) rfl ?_
   refine G_nil ?_
   refine G_then ?_
   refine G_seq ?_
   refine G_region ?_
   refine G_op [0] (v := (.box [1001] 3)) (E_p (by kernel_rfl)) rfl rfl ?_
   refine G_op [0] (v := (ii p_r.Symbol)) (E_load (by kernel_rfl)) rfl rfl ?_
   refine G_op [0] (v := (.box [1003] 2)) (E_p (by kernel_rfl)) rfl rfl ?_
   refine G_op0 [0] (v := (.val (.tup []))) (E_store (b := [1003]) (o := 2) (cs := [(ii p_r.Symbol)]) (cells := [(ii p_r.Order), (ii p_r.Account), (ii 0), (ii 0), (ii 0), (ii 0), (ii 0), (ii 0), (ii 0), (ii 0), (ii 0), (bb false)]) (cells' := [(ii p_r.Order), (ii p_r.Account), (ii p_r.Symbol), (ii 0), (ii 0), (ii 0), (ii 0), (ii 0), (ii 0), (ii 0), (ii 0), (bb false)]) (h' := [([1001], (.box (lRecT p_r))), ([1002], (.box zOrderT)), ([1003], (.box [(ii p_r.Order), (ii p_r.Account), (ii p_r.Symbol), (ii 0), (ii 0), (ii 0), (ii 0), (ii 0), (ii 0), (ii 0), (ii 0), (bb false)]))]) (by kernel_rfl) (by kernel_rfl) (by kernel_rfl) rfl (by kernel_rfl) (by kernel_rfl) (by kernel_rfl) (by kernel_rfl)) rfl ?_
   refine G_nil ?_
   refine G_then ?_
   refine G_subW (s0 := ⟨⟨35, [(4, (.box [1003] 0)), (3, (bb false)), (2, (.box [1002] 0)), (1, (.box [1001] 0))]⟩, mkH [([1001], (.box (lRecT p_r))), ([1002], (.box zOrderT)), ([1003], (.box [(ii p_r.Order), (ii p_r.Account), (ii p_r.Symbol), (ii 0), (ii 0), (ii 0), (ii 0), (ii 0), (ii 0), (ii 0), (ii 0), (bb false)]))]⟩) (by exact Sub_env ⟨.refl _, .refl _, .refl _, .refl _, trivial⟩) ?_
   refine G_seq ?_
   refine G_region ?_
   refine G_op [0] (v := (.box [1001] 4)) (E_p (by kernel_rfl)) rfl rfl ?_
   refine G_op [0] (v := (ii p_r.Side)) (E_load (by kernel_rfl)) rfl rfl ?_
   refine G_op [0] (v := (.box [1003] 3)) (E_p (by kernel_rfl)) rfl rfl ?_
   refine G_op0 [0] (v := (.val (.tup []))) (E_store (b := [1003]) (o := 3) (cs := [(ii p_r.Side)]) (cells := [(ii p_r.Order), (ii p_r.Account), (ii p_r.Symbol), (ii 0), (ii 0), (ii 0), (ii 0), (ii 0), (ii 0), (ii 0), (ii 0), (bb false)]) (cells' := [(ii p_r.Order), (ii p_r.Account), (ii p_r.Symbol), (ii p_r.Side), (ii 0), (ii 0), (ii 0), (ii 0), (ii 0), (ii 0), (ii 0), (bb false)]) (h' := [([1001], (.box (lRecT p_r))), ([1002], (.box zOrderT)), ([1003], (.box [(ii p_r.Order), (ii p_r.Account), (ii p_r.Symbol), (ii p_r.Side), (ii 0), (ii 0), (ii 0), (ii 0), (ii 0), (ii 0), (ii 0), (bb false)]))]) (by kernel_rfl) (by kernel_rfl) (by kernel_rfl) rfl (by kernel_rfl) (by kernel_rfl) (by kernel_rfl) (by kernel_rfl)) rfl ?_
   refine G_nil ?_
   refine G_then ?_
   refine G_seq ?_
   refine G_region ?_
   refine G_op [0] (v := (.box [1001] 5)) (E_p (by kernel_rfl)) rfl rfl ?_
   refine G_op [0] (v := (ii p_r.Qty)) (E_load (by kernel_rfl)) rfl rfl ?_
   refine G_op [0] (v := (.box [1003] 4)) (E_p (by kernel_rfl)) rfl rfl ?_
   refine G_op0 [0] (v := (.val (.tup []))) (E_store (b := [1003]) (o := 4) (cs := [(ii p_r.Qty)]) (cells := [(ii p_r.Order), (ii p_r.Account), (ii p_r.Symbol), (ii p_r.Side), (ii 0), (ii 0), (ii 0), (ii 0), (ii 0), (ii 0), (ii 0), (bb false)]) (cells' := [(ii p_r.Order), (ii p_r.Account), (ii p_r.Symbol), (ii p_r.Side), (ii p_r.Qty), (ii 0), (ii 0), (ii 0), (ii 0), (ii 0), (ii 0), (bb false)]) (h' := [([1001], (.box (lRecT p_r))), ([1002], (.box zOrderT)), ([1003], (.box [(ii p_r.Order), (ii p_r.Account), (ii p_r.Symbol), (ii p_r.Side), (ii p_r.Qty), (ii 0), (ii 0), (ii 0), (ii 0), (ii 0), (ii 0), (bb false)]))]) (by kernel_rfl) (by kernel_rfl) (by kernel_rfl) rfl (by kernel_rfl) (by kernel_rfl) (by kernel_rfl) (by kernel_rfl)) rfl ?_
   refine G_nil ?_
   refine G_then ?_
   refine G_seq ?_
   refine G_region ?_
   refine G_op [0] (v := (.box [1001] 6)) (E_p (by kernel_rfl)) rfl rfl ?_
   refine G_op [0] (v := (ii p_r.Price)) (E_load (by kernel_rfl)) rfl rfl ?_
   refine G_op [0] (v := (.box [1003] 5)) (E_p (by kernel_rfl)) rfl rfl ?_
   refine G_op0 [0] (v := (.val (.tup []))) (E_store (b := [1003]) (o := 5) (cs := [(ii p_r.Price)]) (cells := [(ii p_r.Order), (ii p_r.Account), (ii p_r.Symbol), (ii p_r.Side), (ii p_r.Qty), (ii 0), (ii 0), (ii 0), (ii 0), (ii 0), (ii 0), (bb false)]) (cells' := [(ii p_r.Order), (ii p_r.Account), (ii p_r.Symbol), (ii p_r.Side), (ii p_r.Qty), (ii p_r.Price), (ii 0), (ii 0), (ii 0), (ii 0), (ii 0), (bb false)]) (h' := [([1001], (.box (lRecT p_r))), ([1002], (.box zOrderT)), ([1003], (.box [(ii p_r.Order), (ii p_r.Account), (ii p_r.Symbol), (ii p_r.Side), (ii p_r.Qty), (ii p_r.Price), (ii 0), (ii 0), (ii 0), (ii 0), (ii 0), (bb false)]))]) (by kernel_rfl) (by kernel_rfl) (by kernel_rfl) rfl (by kernel_rfl) (by kernel_rfl) (by kernel_rfl) (by kernel_rfl)) rfl ?_
   refine G_nil ?_
   refine G_then ?_
   refine G_subW (s0 := ⟨⟨35, [(4, (.box [1003] 0)), (3, (bb false)), (2, (.box [1002] 0))]⟩, mkH [([1002], (.box zOrderT)), ([1003], (.box [(ii p_r.Order), (ii p_r.Account), (ii p_r.Symbol), (ii p_r.Side), (ii p_r.Qty), (ii p_r.Price), (ii 0), (ii 0), (ii 0), (ii 0), (ii 0), (bb false)]))]⟩) (by exact Sub_keep ⟨.refl _, .refl _, .refl _, trivial⟩ ⟨⟨_, (by kernel_rfl), .refl _⟩, ⟨_, (by kernel_rfl), .refl _⟩, trivial⟩ (by kernel_rfl) (by kernel_rfl)) ?_
   refine G_seq ?_
   refine G_region ?_
   refine G_op [0] (v := (.box [1003] 7)) (E_p (by kernel_rfl)) rfl rfl ?_
   refine G_op0 [0] (v := (.val (.tup []))) (E_store (b := [1003]) (o := 7) (cs := [(ii 1)]) (cells := [(ii p_r.Order), (ii p_r.Account), (ii p_r.Symbol), (ii p_r.Side), (ii p_r.Qty), (ii p_r.Price), (ii 0), (ii 0), (ii 0), (ii 0), (ii 0), (bb false)]) (cells' := [(ii p_r.Order), (ii p_r.Account), (ii p_r.Symbol), (ii p_r.Side), (ii p_r.Qty), (ii p_r.Price), (ii 0), (ii 1), (ii 0), (ii 0), (ii 0), (bb false)]) (h' := [([1002], (.box zOrderT)), ([1003], (.box [(ii p_r.Order), (ii p_r.Account), (ii p_r.Symbol), (ii p_r.Side), (ii p_r.Qty), (ii p_r.Price), (ii 0), (ii 1), (ii 0), (ii 0), (ii 0), (bb false)]))]) (by kernel_rfl) (by kernel_rfl) (by kernel_rfl) rfl (by kernel_rfl) (by kernel_rfl) (by kernel_rfl) (by kernel_rfl)) rfl ?_
   refine G_nil ?_
   refine G_then ?_
   refine G_seq ?_
   refine G_region ?_
   refine G_op [0] (v := (.agg [(ii p_r.Order), (ii p_r.Account), (ii p_r.Symbol), (ii p_r.Side), (ii p_r.Qty), (ii p_r.Price), (ii 0), (ii 1), (ii 0), (ii 0), (ii 0), (bb false)])) (E_load (by kernel_rfl)) rfl rfl ?_
   refine G_op0 [0] (v := (.val (.tup []))) (E_store (b := [1002]) (o := 0) (cs := [(ii p_r.Order), (ii p_r.Account), (ii p_r.Symbol), (ii p_r.Side), (ii p_r.Qty), (ii p_r.Price), (ii 0), (ii 1), (ii 0), (ii 0), (ii 0), (bb false)]) (cells := zOrderT) (cells' := [(ii p_r.Order), (ii p_r.Account), (ii p_r.Symbol), (ii p_r.Side), (ii p_r.Qty), (ii p_r.Price), (ii 0), (ii 1), (ii 0), (ii 0), (ii 0), (bb false)]) (h' := [([1002], (.box [(ii p_r.Order), (ii p_r.Account), (ii p_r.Symbol), (ii p_r.Side), (ii p_r.Qty), (ii p_r.Price), (ii 0), (ii 1), (ii 0), (ii 0), (ii 0), (bb false)])), ([1003], (.box [(ii p_r.Order), (ii p_r.Account), (ii p_r.Symbol), (ii p_r.Side), (ii p_r.Qty), (ii p_r.Price), (ii 0), (ii 1), (ii 0), (ii 0), (ii 0), (bb false)]))]) (by kernel_rfl) (by kernel_rfl) (by kernel_rfl) rfl (by kernel_rfl) (by kernel_rfl) (by kernel_rfl) (by kernel_rfl)) rfl ?_
   refine G_op [0] (v := (bb true)) (E_p (by kernel_rfl)) rfl rfl ?_
   refine G_nil ?_
   refine G_then ?_
   refine G_ret ?_
   refine G_retR ?_
   refine q_some fun hA => ?_
   show outV _ _ = some _
   kernel_rfl
 ·refine q_bif (fun h1 => ?_) (fun h1 => ?_)
  ·refine G_subR (Sub_lit (t := 9) (v := true) rfl h1) ?_
   refine G_off rfl rfl ?_
   refine G_off rfl rfl ?_
   refine G_off rfl rfl ?_
   refine G_op [0] (v := (bb true)) (E_p (by kernel_rfl)) rfl rfl ?_
   exact q_some fun h => RP_sub (by exact Sub_env ⟨.refl _, .refl _, .refl _, .refl _, .refl _, trivial⟩) h
  ·refine G_subR (Sub_lit (t := 9) (v := false) rfl h1) ?_
   refine G_op [0] (v := (.agg (lRecT p_r))) (E_load (by kernel_rfl)) rfl rfl ?_
   refine q_bind fun v4 hv4 => ?_
   refine G_op [0] (v := (bb v4)) (E_call (ds := [.agg (e_RecT p_r)]) (r := .bool v4) hc66 (by kernel_rfl) ((hs66 p_r _ (by kernel_rfl)).trans (congrArg _ hv4))) rfl rfl ?_
   refine G_op [0] (v := (bb ((!v4)))) (E_p (by kernel_rfl)) rfl rfl ?_
   refine G_op [0] (v := (bb ((!v4)))) (E_p (by kernel_rfl)) rfl rfl ?_
   exact q_some fun h => RP_sub (by exact Sub_env ⟨.refl _, .refl _, .refl _, .refl _, .refl _, trivial⟩) h
theorem s40 (x0 : RecT) (ds : List DV) (hd : List.map z1 ds = List.map z1 [.agg (e_RecT x0)]) : sp40 ds = (g_snaffleref07_Begin x0).map fun r => .tup [.agg (e_OrderT r.1), .bool r.2] :=
 specT_at (ea := fun (a : RecT) => [.agg (e_RecT a)]) (eb := fun (r : (OrderT × Bool)) => .tup [.agg (e_OrderT r.1), .bool r.2]) (g := fun (a : RecT) => g_snaffleref07_Begin a) inj40 x0 hd

def t42_1 : List AIns := (⟨(some 3), (.p (.mv (.t 41))), none⟩ :: [])
def t42_2 : List AIns := (⟨(some 53), (.p (.pick (.t 44) (.t 52) (.c (.bool false)))), none⟩ :: [])
def t42_4 : List AIns := (⟨(some 2), (.p (.mv (.t 67))), none⟩ :: [])
def t42_5 : List AIns := (⟨(some 2), (.p (.mv (.t 81))), none⟩ :: [])
def t42_0 : List AIns := (⟨(some 29), (.p (.mv (.t 28))), none⟩ :: ⟨(some 30), (.p (.foff 10 (.t 1))), (some (29, false))⟩ :: ⟨(some 31), (.r (.load 1 false (.t 30))), (some (29, false))⟩ :: ⟨(some 32), (.p (.bin .lss (.t 31) (.c (.int .i64 0)))), (some (29, false))⟩ :: ⟨(some 33), (.p (.pick (.t 29) (.c (.bool true)) (.t 32))), none⟩ :: [])
def t42_3 : List AIns := (⟨(some 63), (.p (.mv (.t 62))), none⟩ :: ⟨(some 64), (.p (.foff 10 (.t 1))), (some (63, true))⟩ :: ⟨(some 65), (.r (.load 1 false (.t 64))), (some (63, true))⟩ :: ⟨(some 66), (.p (.bin .eql (.t 65) (.c (.int .i64 0)))), (some (63, true))⟩ :: ⟨(some 67), (.p (.pick (.t 63) (.t 66) (.c (.bool false)))), none⟩ :: t42_4)
def k42_0 : ACode := (.region (⟨(some 4), (.p (.foff 0 (.t 1))), none⟩ :: ⟨(some 5), (.r (.load 1 false (.t 4))), none⟩ :: ⟨(some 6), (.p (.foff 1 (.t 1))), none⟩ :: ⟨(some 7), (.r (.load 1 false (.t 6))), none⟩ :: ⟨(some 8), (.p (.foff 2 (.t 1))), none⟩ :: ⟨(some 9), (.r (.load 1 false (.t 8))), none⟩ :: ⟨(some 10), (.p (.foff 3 (.t 1))), none⟩ :: ⟨(some 11), (.r (.load 1 false (.t 10))), none⟩ :: ⟨(some 12), (.p (.foff 4 (.t 1))), none⟩ :: ⟨(some 13), (.r (.load 1 false (.t 12))), none⟩ :: ⟨(some 14), (.p (.foff 5 (.t 1))), none⟩ :: ⟨(some 15), (.r (.load 1 false (.t 14))), none⟩ :: ⟨(some 16), (.p (.build [(.int .i64 0), (.int .i64 0), (.int .i64 0), (.int .i64 0), (.int .i64 0), (.int .i64 0), (.int .i64 0), (.int .i64 0), (.int .i64 0), (.int .i64 0), (.bool false), (.int .i64 0), (.int .i64 0)] [(0, (1, (.c (.int .i64 1)))), (1, (1, (.t 5))), (2, (1, (.t 7))), (3, (1, (.t 9))), (4, (1, (.t 11))), (5, (1, (.t 13))), (6, (1, (.t 15)))])), none⟩ :: ⟨(some 17), (.r (.call 66 [(.t 16)])), none⟩ :: ⟨(some 18), (.p (.un .not (.t 17))), none⟩ :: []))
def k42_1 : ACode := (.seq k42_0 (.cond (.t 18) (.seq (.region (⟨(some 2), (.p (.mv (.c (.bool false)))), none⟩ :: [])) .ret) .skip))
def k42_2 : ACode := (.region (⟨(some 19), (.p (.foff 6 (.t 1))), none⟩ :: ⟨(some 20), (.r (.load 1 false (.t 19))), none⟩ :: ⟨(some 21), (.p (.bin .lss (.t 20) (.c (.int .i64 0)))), none⟩ :: ⟨(some 22), (.p (.mv (.t 21))), none⟩ :: ⟨(some 23), (.p (.foff 6 (.t 1))), (some (22, false))⟩ :: ⟨(some 24), (.r (.load 1 false (.t 23))), (some (22, false))⟩ :: ⟨(some 25), (.p (.foff 4 (.t 1))), (some (22, false))⟩ :: ⟨(some 26), (.r (.load 1 false (.t 25))), (some (22, false))⟩ :: ⟨(some 27), (.p (.bin .gtr (.t 24) (.t 26))), (some (22, false))⟩ :: ⟨(some 28), (.p (.pick (.t 22) (.c (.bool true)) (.t 27))), none⟩ :: t42_0))
def k42_3 : ACode := (.seq k42_2 (.cond (.t 33) (.seq (.region (⟨(some 2), (.p (.mv (.c (.bool false)))), none⟩ :: [])) .ret) .skip))
def k42_4 : ACode := (.region (⟨(some 34), (.p (.foff 8 (.t 1))), none⟩ :: ⟨(some 35), (.r (.load 1 false (.t 34))), none⟩ :: ⟨(some 36), (.p (.bin .eql (.t 35) (.c (.int .i64 0)))), none⟩ :: ⟨(some 37), (.p (.mv (.t 36))), none⟩ :: ⟨(some 38), (.p (.foff 9 (.t 1))), (some (37, true))⟩ :: ⟨(some 39), (.r (.load 1 false (.t 38))), (some (37, true))⟩ :: ⟨(some 40), (.p (.bin .eql (.t 39) (.c (.int .i64 0)))), (some (37, true))⟩ :: ⟨(some 41), (.p (.pick (.t 37) (.t 40) (.c (.bool false)))), none⟩ :: t42_1))
def k42_5 : ACode := (.region (⟨(some 42), (.p (.mv (.t 3))), none⟩ :: ⟨(some 43), (.p (.un .not (.t 42))), none⟩ :: ⟨(some 44), (.p (.mv (.t 43))), none⟩ :: ⟨(some 45), (.p (.foff 8 (.t 1))), (some (44, true))⟩ :: ⟨(some 46), (.r (.load 1 false (.t 45))), (some (44, true))⟩ :: ⟨(some 47), (.p (.bin .lss (.t 46) (.c (.int .i64 1)))), (some (44, true))⟩ :: ⟨(some 48), (.p (.mv (.t 47))), (some (44, true))⟩ :: ⟨(some 49), (.p (.foff 9 (.t 1))), (some (48, false))⟩ :: ⟨(some 50), (.r (.load 1 false (.t 49))), (some (48, false))⟩ :: ⟨(some 51), (.p (.bin .lss (.t 50) (.c (.int .i64 1)))), (some (48, false))⟩ :: ⟨(some 52), (.p (.pick (.t 48) (.c (.bool true)) (.t 51))), (some (44, true))⟩ :: t42_2))
def k42_6 : ACode := (.seq k42_5 (.cond (.t 53) (.seq (.region (⟨(some 2), (.p (.mv (.c (.bool false)))), none⟩ :: [])) .ret) .skip))
def k42_7 : ACode := (.region (⟨(some 57), (.p (.mv (.t 3))), none⟩ :: ⟨(some 58), (.p (.mv (.t 57))), none⟩ :: ⟨(some 59), (.p (.foff 6 (.t 1))), (some (58, true))⟩ :: ⟨(some 60), (.r (.load 1 false (.t 59))), (some (58, true))⟩ :: ⟨(some 61), (.p (.bin .eql (.t 60) (.c (.int .i64 0)))), (some (58, true))⟩ :: ⟨(some 62), (.p (.pick (.t 58) (.t 61) (.c (.bool false)))), none⟩ :: t42_3))
def k42_8 : ACode := (.seq k42_7 .ret)
def k42_9 : ACode := (.cond (.t 56) k42_8 .skip)
def k42_10 : ACode := (.seq (.region (⟨(some 54), (.p (.foff 7 (.t 1))), none⟩ :: ⟨(some 55), (.r (.load 1 false (.t 54))), none⟩ :: ⟨(some 56), (.p (.bin .eql (.t 55) (.c (.int .i64 1)))), none⟩ :: [])) k42_9)
def k42_11 : ACode := (.region (⟨(some 71), (.p (.foff 6 (.t 1))), none⟩ :: ⟨(some 72), (.r (.load 1 false (.t 71))), none⟩ :: ⟨(some 73), (.p (.foff 4 (.t 1))), none⟩ :: ⟨(some 74), (.r (.load 1 false (.t 73))), none⟩ :: ⟨(some 75), (.p (.bin .neq (.t 72) (.t 74))), none⟩ :: ⟨(some 2), (.p (.mv (.t 75))), none⟩ :: []))
def k42_12 : ACode := (.seq k42_11 .ret)
def k42_13 : ACode := (.cond (.t 70) k42_12 .skip)
def k42_14 : ACode := (.seq (.region (⟨(some 68), (.p (.foff 7 (.t 1))), none⟩ :: ⟨(some 69), (.r (.load 1 false (.t 68))), none⟩ :: ⟨(some 70), (.p (.bin .eql (.t 69) (.c (.int .i64 2)))), none⟩ :: [])) k42_13)
def k42_15 : ACode := (.region (⟨(some 76), (.p (.foff 7 (.t 1))), none⟩ :: ⟨(some 77), (.r (.load 1 false (.t 76))), none⟩ :: ⟨(some 78), (.p (.bin .eql (.t 77) (.c (.int .i64 3)))), none⟩ :: ⟨(some 79), (.p (.mv (.t 78))), none⟩ :: ⟨(some 80), (.p (.mv (.t 3))), (some (79, true))⟩ :: ⟨(some 81), (.p (.pick (.t 79) (.t 80) (.c (.bool false)))), none⟩ :: t42_5))
def k42_16 : ACode := (.seq k42_15 .ret)
def k42_17 : ACode := (.seq k42_14 k42_16)
def k42_18 : ACode := (.seq k42_10 k42_17)
def k42_19 : ACode := (.seq k42_6 k42_18)
def k42_20 : ACode := (.seq k42_4 k42_19)
def k42_21 : ACode := (.seq k42_3 k42_20)
def k42_22 : ACode := (.seq k42_1 k42_21)
def cd42 : ACode := (.seq (.region (⟨(some 1), (.a (.bx (.t 0))), none⟩ :: ⟨(some 2), (.p (.mv (.c (.bool false)))), none⟩ :: [])) k42_22)
def rs42 : List ARes := [(.tmp 2)]
def af42 : AFn := ⟨cd42, rs42, 82⟩
theorem c42 : compF Try.prog 42 = some af42 := by kernel_rfl
noncomputable def g_snaffleref07_Right (p_o : OrderT) : Option Bool := (Option.bind (g_snaffleref06_Right (RecT.mk 1 p_o.Id p_o.Account p_o.Symbol p_o.Side p_o.Qty p_o.Price 0 0 0 false 0 0)) fun v1 => (bif (!v1) then (some false) else (bif (((decide (p_o.Filled < 0)) || (decide (p_o.Filled > p_o.Qty))) || (decide (p_o.Version < 0))) then (some false) else (bif ((!((p_o.NewQty == 0) && (p_o.NewPrice == 0))) && ((decide (p_o.NewQty < 1)) || (decide (p_o.NewPrice < 1)))) then (some false) else (bif (p_o.Phase == 1) then (some ((((p_o.NewQty == 0) && (p_o.NewPrice == 0)) && (p_o.Filled == 0)) && (p_o.Version == 0))) else (bif (p_o.Phase == 2) then (some (p_o.Filled != p_o.Qty)) else (some ((p_o.Phase == 3) && ((p_o.NewQty == 0) && (p_o.NewPrice == 0))))))))))
noncomputable def sp42 : List DV → Option DV := specT (fun (a : OrderT) => [.agg (e_OrderT a)]) (fun (r : Bool) => .bool r) (fun (a : OrderT) => g_snaffleref07_Right a)
theorem inj42 : ∀ (a b : OrderT), List.map z1 ((fun (a : OrderT) => [.agg (e_OrderT a)]) a) = List.map z1 ((fun (a : OrderT) => [.agg (e_OrderT a)]) b) → a = b := by
 intro a0 b0 h
 simp only [List.map_cons, List.map_nil, List.cons.injEq, and_true] at h
 exact (e_OrderT_inj (DV.agg.inj h))
set_option maxHeartbeats 1000000 in
theorem w42 {C : FuncId → Con} (hC : ConOk Try.prog C) {q66 : List DV → Option DV} (hc66 : C 66 = .val q66) (hs66 : ∀ (x0 : RecT) (ds : List DV), List.map z1 ds = List.map z1 [.agg (e_RecT x0)] → q66 ds = (g_snaffleref06_Right x0).map fun r => .bool r) : ValOk Try.prog 42 sp42 := by
 refine valT_of hC c42 _ _ _ inj42 ?_
 intro p_o
 show Imq (g_snaffleref07_Right p_o) (fun _ => True) fun r => WP Try.prog C (fun _ => False) cd42 (retQ fun s => outV s rs42 = some (.bool r)) ⟨⟨82, [(0, (.val (.agg [(.int .i64 p_o.Id), (.int .i64 p_o.Account), (.int .i64 p_o.Symbol), (.int .i64 p_o.Side), (.int .i64 p_o.Qty), (.int .i64 p_o.Price), (.int .i64 p_o.Filled), (.int .i64 p_o.Phase), (.int .i64 p_o.NewQty), (.int .i64 p_o.NewPrice), (.int .i64 p_o.Version), (.bool p_o.Asked)])))]⟩, mkH []⟩
 unfold g_snaffleref07_Right
 refine G_seq ?_
 refine G_region ?_
 refine G_op [1001] (v := (.box [1001] 0)) (E_a (u := (.box [1001] 0)) (b := (.box (lOrderT p_o))) (h' := [([1001], (.box (lOrderT p_o)))]) (by kernel_rfl) (by kernel_rfl) (by kernel_rfl)) rfl rfl ?_
 refine G_op [0] (v := (bb false)) (E_p (by kernel_rfl)) rfl rfl ?_
 refine G_nil ?_
 refine G_then ?_
 refine G_seq ?_
 refine G_seq ?_
 refine G_region ?_
 refine G_op [0] (v := (.box [1001] 0)) (E_p (by kernel_rfl)) rfl rfl ?_
 refine G_op [0] (v := (ii p_o.Id)) (E_load (by kernel_rfl)) rfl rfl ?_
 refine G_op [0] (v := (.box [1001] 1)) (E_p (by kernel_rfl)) rfl rfl ?_
 refine G_op [0] (v := (ii p_o.Account)) (E_load (by kernel_rfl)) rfl rfl ?_
 refine G_op [0] (v := (.box [1001] 2)) (E_p (by kernel_rfl)) rfl rfl ?_
 refine G_op [0] (v := (ii p_o.Symbol)) (E_load (by kernel_rfl)) rfl rfl ?_
 refine G_op [0] (v := (.box [1001] 3)) (E_p (by kernel_rfl)) rfl rfl ?_
 refine G_op [0] (v := (ii p_o.Side)) (E_load (by kernel_rfl)) rfl rfl ?_
 refine G_op [0] (v := (.box [1001] 4)) (E_p (by kernel_rfl)) rfl rfl ?_
 refine G_op [0] (v := (ii p_o.Qty)) (E_load (by kernel_rfl)) rfl rfl ?_
 refine G_op [0] (v := (.box [1001] 5)) (E_p (by kernel_rfl)) rfl rfl ?_
 refine G_op [0] (v := (ii p_o.Price)) (E_load (by kernel_rfl)) rfl rfl ?_
 refine G_op [0] (v := (.agg [(ii 1), (ii p_o.Id), (ii p_o.Account), (ii p_o.Symbol), (ii p_o.Side), (ii p_o.Qty), (ii p_o.Price), (ii 0), (ii 0), (ii 0), (bb false), (ii 0), (ii 0)])) (E_p (by kernel_rfl)) rfl rfl ?_
 refine q_bind fun v1 hv1 => ?_
 refine G_op [0] (v := (bb v1)) (E_call (ds := [.agg (e_RecT (RecT.mk 1 p_o.Id p_o.Account p_o.Symbol p_o.Side p_o.Qty p_o.Price 0 0 0 false 0 0))]) (r := .bool v1) hc66 (by kernel_rfl) ((hs66 (RecT.mk 1 p_o.Id p_o.Account p_o.Symbol p_o.Side p_o.Qty p_o.Price 0 0 0 false 0 0) _ (by kernel_rfl)).trans (congrArg _ hv1))) rfl rfl ?_
 refine G_op [0] (v := (bb ((!v1)))) (E_p (by kernel_rfl)) rfl rfl ?_
 refine G_nil ?_
 refine G_then ?_
 refine G_subW (s0 := ⟨⟨82, [(18, (bb ((!v1)))), (2, (bb false)), (1, (.box [1001] 0))]⟩, mkH [([1001], (.box (lOrderT p_o)))]⟩) (by exact Sub_env ⟨.refl _, .refl _, .refl _, trivial⟩) ?_
 refine G_cond (t := (!v1)) (by kernel_rfl) (fun _ => ?_) (fun _ => ?_)
 ·refine G_seq ?_
  refine G_region ?_
  refine G_op [0] (v := (bb false)) (E_p (by kernel_rfl)) rfl rfl ?_
  refine G_nil ?_
  refine G_then ?_
  refine G_ret ?_
  refine G_thenR ?_
  refine G_retR ?_
  refine q_some fun hA => ?_
  show outV _ _ = some _
  kernel_rfl
 ·refine G_skip ?_
  refine G_then ?_
  refine G_seq ?_
  refine G_seq ?_
  refine G_region ?_
  refine G_op [0] (v := (.box [1001] 6)) (E_p (by kernel_rfl)) rfl rfl ?_
  refine G_op [0] (v := (ii p_o.Filled)) (E_load (by kernel_rfl)) rfl rfl ?_
  refine G_op [0] (v := (bb ((decide (p_o.Filled < 0))))) (E_p (by kernel_rfl)) rfl rfl ?_
  refine G_op [0] (v := (bb ((decide (p_o.Filled < 0))))) (E_p (by kernel_rfl)) rfl rfl ?_
  refine G_pure (l := t42_0) (st := ⟨⟨82, [(28, (bb (((decide (p_o.Filled < 0)) || (decide (p_o.Filled > p_o.Qty)))))), (2, (bb false)), (1, (.box [1001] 0))]⟩, mkH [([1001], (.box (lOrderT p_o)))]⟩) ?_ (fun r4 => ?_)
  ·refine G_op [0] (v := (bb (((decide (p_o.Filled < 0)) || (decide (p_o.Filled > p_o.Qty)))))) (E_p (by kernel_rfl)) rfl rfl ?_
   refine G_pure (l := []) (st := ⟨⟨82, [(33, (bb ((((decide (p_o.Filled < 0)) || (decide (p_o.Filled > p_o.Qty))) || (decide (p_o.Version < 0)))))), (2, (bb false)), (1, (.box [1001] 0))]⟩, mkH [([1001], (.box (lOrderT p_o)))]⟩) ?_ (fun r7 => ?_)
   ·refine G_nil ?_
    refine G_then ?_
    refine G_cond (t := (((decide (p_o.Filled < 0)) || (decide (p_o.Filled > p_o.Qty))) || (decide (p_o.Version < 0)))) (by kernel_rfl) (fun _ => ?_) (fun _ => ?_)
    ·refine G_seq ?_
     refine G_region ?_
     refine G_op [0] (v := (bb false)) (E_p (by kernel_rfl)) rfl rfl ?_
     refine G_nil ?_
     refine G_then ?_
     refine G_ret ?_
     refine G_thenR ?_
     refine G_retR ?_
     refine q_some fun hA => ?_
     show outV _ _ = some _
     kernel_rfl
    ·refine G_skip ?_
     refine G_then ?_
     refine G_seq ?_
     refine G_region ?_
     refine G_op [0] (v := (.box [1001] 8)) (E_p (by kernel_rfl)) rfl rfl ?_
     refine G_op [0] (v := (ii p_o.NewQty)) (E_load (by kernel_rfl)) rfl rfl ?_
     refine G_op [0] (v := (bb ((p_o.NewQty == 0)))) (E_p (by kernel_rfl)) rfl rfl ?_
     refine G_op [0] (v := (bb ((p_o.NewQty == 0)))) (E_p (by kernel_rfl)) rfl rfl ?_
     refine G_pure (l := t42_1) (st := ⟨⟨82, [(41, (bb (((p_o.NewQty == 0) && (p_o.NewPrice == 0))))), (2, (bb false)), (1, (.box [1001] 0))]⟩, mkH [([1001], (.box (lOrderT p_o)))]⟩) ?_ (fun r10 => ?_)
     ·refine G_op [0] (v := (bb (((p_o.NewQty == 0) && (p_o.NewPrice == 0))))) (E_p (by kernel_rfl)) rfl rfl ?_
      refine G_nil ?_
      refine G_then ?_
      refine G_seq ?_
      refine G_seq ?_
      refine G_region ?_
      refine G_op [0] (v := (bb (((p_o.NewQty == 0) && (p_o.NewPrice == 0))))) (E_p (by kernel_rfl)) rfl rfl ?_
      refine G_op [0] (v := (bb ((!((p_o.NewQty == 0) && (p_o.NewPrice == 0)))))) (E_p (by kernel_rfl)) rfl rfl ?_
      refine G_op [0] (v := (bb ((!((p_o.NewQty == 0) && (p_o.NewPrice == 0)))))) (E_p (by kernel_rfl)) rfl rfl ?_
      refine G_pure (l := []) (st := ⟨⟨82, [(53, (bb (((!((p_o.NewQty == 0) && (p_o.NewPrice == 0))) && ((decide (p_o.NewQty < 1)) || (decide (p_o.NewPrice < 1))))))), (3, (bb (((p_o.NewQty == 0) && (p_o.NewPrice == 0))))), (2, (bb false)), (1, (.box [1001] 0))]⟩, mkH [([1001], (.box (lOrderT p_o)))]⟩) ?_ (fun r13 => ?_)
      ·refine G_nil ?_
       refine G_then ?_
       refine G_cond (t := ((!((p_o.NewQty == 0) && (p_o.NewPrice == 0))) && ((decide (p_o.NewQty < 1)) || (decide (p_o.NewPrice < 1))))) (by kernel_rfl) (fun _ => ?_) (fun _ => ?_)
       ·refine G_seq ?_
        refine G_region ?_
        refine G_op [0] (v := (bb false)) (E_p (by kernel_rfl)) rfl rfl ?_
        refine G_nil ?_
        refine G_then ?_
        refine G_ret ?_
        refine G_thenR ?_
        refine G_retR ?_
        refine q_some fun hA => ?_
        show outV _ _ = some _
        kernel_rfl
       ·refine G_skip ?_
        refine G_then ?_
        refine G_seq ?_
        refine G_seq ?_
        refine G_region ?_
        refine G_op [0] (v := (.box [1001] 7)) (E_p (by kernel_rfl)) rfl rfl ?_
        refine G_op [0] (v := (ii p_o.Phase)) (E_load (by kernel_rfl)) rfl rfl ?_
        refine G_op [0] (v := (bb ((p_o.Phase == 1)))) (E_p (by kernel_rfl)) rfl rfl ?_
        refine G_nil ?_
        refine G_then ?_
        refine G_cond (t := (p_o.Phase == 1)) (by kernel_rfl) (fun _ => ?_) (fun _ => ?_)
        ·refine G_seq ?_
         refine G_region ?_
         refine G_op [0] (v := (bb (((p_o.NewQty == 0) && (p_o.NewPrice == 0))))) (E_p (by kernel_rfl)) rfl rfl ?_
         refine G_op [0] (v := (bb (((p_o.NewQty == 0) && (p_o.NewPrice == 0))))) (E_p (by kernel_rfl)) rfl rfl ?_
         refine G_pure (l := t42_3) (st := ⟨⟨82, [(62, (bb ((((p_o.NewQty == 0) && (p_o.NewPrice == 0)) && (p_o.Filled == 0))))), (3, (bb (((p_o.NewQty == 0) && (p_o.NewPrice == 0))))), (2, (bb false)), (1, (.box [1001] 0))]⟩, mkH [([1001], (.box (lOrderT p_o)))]⟩) ?_ (fun r16 => ?_)
         ·refine G_op [0] (v := (bb ((((p_o.NewQty == 0) && (p_o.NewPrice == 0)) && (p_o.Filled == 0))))) (E_p (by kernel_rfl)) rfl rfl ?_
          refine G_pure (l := t42_4) (st := ⟨⟨82, [(67, (bb (((((p_o.NewQty == 0) && (p_o.NewPrice == 0)) && (p_o.Filled == 0)) && (p_o.Version == 0))))), (3, (bb (((p_o.NewQty == 0) && (p_o.NewPrice == 0))))), (2, (bb false)), (1, (.box [1001] 0))]⟩, mkH [([1001], (.box (lOrderT p_o)))]⟩) ?_ (fun r19 => ?_)
          ·refine G_op [0] (v := (bb (((((p_o.NewQty == 0) && (p_o.NewPrice == 0)) && (p_o.Filled == 0)) && (p_o.Version == 0))))) (E_p (by kernel_rfl)) rfl rfl ?_
           refine G_nil ?_
           refine G_then ?_
           refine G_ret ?_
           refine G_thenR ?_
           refine G_retR ?_
           refine q_some fun hA => ?_
           show outV _ _ = some _
           kernel_rfl
          ·refine q_two (((p_o.NewQty == 0) && (p_o.NewPrice == 0)) && (p_o.Filled == 0)) (fun h17 => ?_) (fun h17 => ?_)
           ·refine G_subR (Sub_lit (t := 63) (v := true) rfl h17) ?_
            refine G_op [0] (v := (.box [1001] 10)) (E_p (by kernel_rfl)) rfl rfl ?_
            refine G_op [0] (v := (ii p_o.Version)) (E_load (by kernel_rfl)) rfl rfl ?_
            refine G_op [0] (v := (bb ((p_o.Version == 0)))) (E_p (by kernel_rfl)) rfl rfl ?_
            refine G_op [0] (v := (bb ((p_o.Version == 0)))) (E_p (by kernel_rfl)) rfl rfl ?_
            exact q_some fun h => RP_sub (by exact Sub_env ⟨(Wk_and1 h17), .refl _, .refl _, .refl _, trivial⟩) h
           ·refine G_subR (Sub_lit (t := 63) (v := false) rfl h17) ?_
            refine G_off rfl rfl ?_
            refine G_off rfl rfl ?_
            refine G_off rfl rfl ?_
            refine G_op [0] (v := (bb false)) (E_p (by kernel_rfl)) rfl rfl ?_
            exact q_some fun h => RP_sub (by exact Sub_env ⟨(Wk_and0 h17), .refl _, .refl _, .refl _, trivial⟩) h
         ·refine q_two ((p_o.NewQty == 0) && (p_o.NewPrice == 0)) (fun h14 => ?_) (fun h14 => ?_)
          ·refine G_subR (Sub_lit (t := 58) (v := true) rfl h14) ?_
           refine G_op [0] (v := (.box [1001] 6)) (E_p (by kernel_rfl)) rfl rfl ?_
           refine G_op [0] (v := (ii p_o.Filled)) (E_load (by kernel_rfl)) rfl rfl ?_
           refine G_op [0] (v := (bb ((p_o.Filled == 0)))) (E_p (by kernel_rfl)) rfl rfl ?_
           refine G_op [0] (v := (bb ((p_o.Filled == 0)))) (E_p (by kernel_rfl)) rfl rfl ?_
           exact q_some fun h => RP_sub (by exact Sub_env ⟨(Wk_and1 h14), .refl _, .refl _, .refl _, trivial⟩) h
          ·refine G_subR (Sub_lit (t := 58) (v := false) rfl h14) ?_
           refine G_off rfl rfl ?_
           refine G_off rfl rfl ?_
           refine G_off rfl rfl ?_
           refine G_op [0] (v := (bb false)) (E_p (by kernel_rfl)) rfl rfl ?_
           exact q_some fun h => RP_sub (by exact Sub_env ⟨(Wk_and0 h14), .refl _, .refl _, .refl _, trivial⟩) h
        ·refine G_skip ?_
         refine G_then ?_
         refine G_seq ?_
         refine G_seq ?_
         refine G_region ?_
         refine G_op [0] (v := (.box [1001] 7)) (E_p (by kernel_rfl)) rfl rfl ?_
         refine G_op [0] (v := (ii p_o.Phase)) (E_load (by kernel_rfl)) rfl rfl ?_
         refine G_op [0] (v := (bb ((p_o.Phase == 2)))) (E_p (by kernel_rfl)) rfl rfl ?_
         refine G_nil ?_
         refine G_then ?_
         refine G_cond (t := (p_o.Phase == 2)) (by kernel_rfl) (fun _ => ?_) (fun _ => ?_)
         ·refine G_seq ?_
          refine G_region ?_
          refine G_op [0] (v := (.box [1001] 6)) (E_p (by kernel_rfl)) rfl rfl ?_
          refine G_op [0] (v := (ii p_o.Filled)) (E_load (by kernel_rfl)) rfl rfl ?_
          refine G_op [0] (v := (.box [1001] 4)) (E_p (by kernel_rfl)) rfl rfl ?_
          refine G_op [0] (v := (ii p_o.Qty)) (E_load (by kernel_rfl)) rfl rfl ?_
          refine G_op [0] (v := (bb ((p_o.Filled != p_o.Qty)))) (E_p (by kernel_rfl)) rfl rfl ?_
          refine G_op [0] (v := (bb ((p_o.Filled != p_o.Qty)))) (E_p (by kernel_rfl)) rfl rfl ?_
          refine G_nil ?_
          refine G_then ?_
          refine G_subW (s0 := ⟨⟨82, [(2, (bb ((p_o.Filled != p_o.Qty)))), (3, (bb (((p_o.NewQty == 0) && (p_o.NewPrice == 0))))), (1, (.box [1001] 0))]⟩, mkH [([1001], (.box (lOrderT p_o)))]⟩) (by exact Sub_env ⟨.refl _, .refl _, .refl _, trivial⟩) ?_
          refine G_ret ?_
          refine G_thenR ?_
          refine G_retR ?_
          refine q_some fun hA => ?_
          show outV _ _ = some _
          kernel_rfl
         ·refine G_skip ?_
          refine G_then ?_
          refine G_seq ?_
          refine G_region ?_
          refine G_op [0] (v := (.box [1001] 7)) (E_p (by kernel_rfl)) rfl rfl ?_
          refine G_op [0] (v := (ii p_o.Phase)) (E_load (by kernel_rfl)) rfl rfl ?_
          refine G_op [0] (v := (bb ((p_o.Phase == 3)))) (E_p (by kernel_rfl)) rfl rfl ?_
          refine G_op [0] (v := (bb ((p_o.Phase == 3)))) (E_p (by kernel_rfl)) rfl rfl ?_
          refine G_pure (l := t42_5) (st := ⟨⟨82, [(81, (bb (((p_o.Phase == 3) && ((p_o.NewQty == 0) && (p_o.NewPrice == 0)))))), (2, (bb false))]⟩, mkH []⟩) ?_ (fun r22 => ?_)
          ·refine G_op [0] (v := (bb (((p_o.Phase == 3) && ((p_o.NewQty == 0) && (p_o.NewPrice == 0)))))) (E_p (by kernel_rfl)) rfl rfl ?_
           refine G_nil ?_
           refine G_then ?_
           refine G_ret ?_
           refine G_retR ?_
           refine q_some fun hA => ?_
           show outV _ _ = some _
           kernel_rfl
          ·refine q_two (p_o.Phase == 3) (fun h20 => ?_) (fun h20 => ?_)
           ·refine G_subR (Sub_lit (t := 79) (v := true) rfl h20) ?_
            refine G_op [0] (v := (bb (((p_o.NewQty == 0) && (p_o.NewPrice == 0))))) (E_p (by kernel_rfl)) rfl rfl ?_
            refine G_op [0] (v := (bb (((p_o.NewQty == 0) && (p_o.NewPrice == 0))))) (E_p (by kernel_rfl)) rfl rfl ?_
            exact q_some fun h => RP_sub (by exact Sub_keep ⟨(Wk_and1 h20), .refl _, trivial⟩ trivial (by kernel_rfl) (by kernel_rfl)) h
           ·refine G_subR (Sub_lit (t := 79) (v := false) rfl h20) ?_
            refine G_off rfl rfl ?_
            refine G_op [0] (v := (bb false)) (E_p (by kernel_rfl)) rfl rfl ?_
            exact q_some fun h => RP_sub (by exact Sub_keep ⟨(Wk_and0 h20), .refl _, trivial⟩ trivial (by kernel_rfl) (by kernel_rfl)) h
      ·refine q_two (!((p_o.NewQty == 0) && (p_o.NewPrice == 0))) (fun h11 => ?_) (fun h11 => ?_)
       ·refine G_subR (Sub_lit (t := 44) (v := true) rfl h11) ?_
        refine G_op [0] (v := (.box [1001] 8)) (E_p (by kernel_rfl)) rfl rfl ?_
        refine G_op [0] (v := (ii p_o.NewQty)) (E_load (by kernel_rfl)) rfl rfl ?_
        refine G_op [0] (v := (bb ((decide (p_o.NewQty < 1))))) (E_p (by kernel_rfl)) rfl rfl ?_
        refine G_op [0] (v := (bb ((decide (p_o.NewQty < 1))))) (E_p (by kernel_rfl)) rfl rfl ?_
        refine G_pure (l := t42_2) (st := ⟨⟨82, [(52, (bb (((decide (p_o.NewQty < 1)) || (decide (p_o.NewPrice < 1)))))), (44, (bb true)), (3, (bb (((p_o.NewQty == 0) && (p_o.NewPrice == 0))))), (2, (bb false)), (1, (.box [1001] 0))]⟩, mkH [([1001], (.box (lOrderT p_o)))]⟩) ?_ (fun r25 => ?_)
        ·refine G_op [0] (v := (bb (((decide (p_o.NewQty < 1)) || (decide (p_o.NewPrice < 1)))))) (E_p (by kernel_rfl)) rfl rfl ?_
         exact q_some fun h => RP_sub (by exact Sub_env ⟨(Wk_and1 h11), .refl _, .refl _, .refl _, trivial⟩) h
        ·refine q_two (decide (p_o.NewQty < 1)) (fun h23 => ?_) (fun h23 => ?_)
         ·refine G_subR (Sub_lit (t := 48) (v := true) rfl h23) ?_
          refine G_off rfl rfl ?_
          refine G_off rfl rfl ?_
          refine G_off rfl rfl ?_
          refine G_op [0] (v := (bb true)) (E_p (by kernel_rfl)) rfl rfl ?_
          exact q_some fun h => RP_sub (by exact Sub_env ⟨(Wk_or1 h23), .refl _, .refl _, .refl _, .refl _, trivial⟩) h
         ·refine G_subR (Sub_lit (t := 48) (v := false) rfl h23) ?_
          refine G_op [0] (v := (.box [1001] 9)) (E_p (by kernel_rfl)) rfl rfl ?_
          refine G_op [0] (v := (ii p_o.NewPrice)) (E_load (by kernel_rfl)) rfl rfl ?_
          refine G_op [0] (v := (bb ((decide (p_o.NewPrice < 1))))) (E_p (by kernel_rfl)) rfl rfl ?_
          refine G_op [0] (v := (bb ((decide (p_o.NewPrice < 1))))) (E_p (by kernel_rfl)) rfl rfl ?_
          exact q_some fun h => RP_sub (by exact Sub_env ⟨(Wk_or0 h23), .refl _, .refl _, .refl _, .refl _, trivial⟩) h
       ·refine G_subR (Sub_lit (t := 44) (v := false) rfl h11) ?_
        refine G_off rfl rfl ?_
        refine G_off rfl rfl ?_
        refine G_off rfl rfl ?_
        refine G_off rfl rfl ?_
        refine G_off rfl rfl ?_
        refine G_off rfl rfl ?_
        refine G_off rfl rfl ?_
        refine G_off rfl rfl ?_
        refine G_op [0] (v := (bb false)) (E_p (by kernel_rfl)) rfl rfl ?_
        exact q_some fun h => RP_sub (by exact Sub_env ⟨(Wk_and0 h11), .refl _, .refl _, .refl _, trivial⟩) h
     ·refine q_two (p_o.NewQty == 0) (fun h8 => ?_) (fun h8 => ?_)
      ·refine G_subR (Sub_lit (t := 37) (v := true) rfl h8) ?_
       refine G_op [0] (v := (.box [1001] 9)) (E_p (by kernel_rfl)) rfl rfl ?_
       refine G_op [0] (v := (ii p_o.NewPrice)) (E_load (by kernel_rfl)) rfl rfl ?_
       refine G_op [0] (v := (bb ((p_o.NewPrice == 0)))) (E_p (by kernel_rfl)) rfl rfl ?_
       refine G_op [0] (v := (bb ((p_o.NewPrice == 0)))) (E_p (by kernel_rfl)) rfl rfl ?_
       exact q_some fun h => RP_sub (by exact Sub_env ⟨(Wk_and1 h8), .refl _, .refl _, trivial⟩) h
      ·refine G_subR (Sub_lit (t := 37) (v := false) rfl h8) ?_
       refine G_off rfl rfl ?_
       refine G_off rfl rfl ?_
       refine G_off rfl rfl ?_
       refine G_op [0] (v := (bb false)) (E_p (by kernel_rfl)) rfl rfl ?_
       exact q_some fun h => RP_sub (by exact Sub_env ⟨(Wk_and0 h8), .refl _, .refl _, trivial⟩) h
   ·refine q_two ((decide (p_o.Filled < 0)) || (decide (p_o.Filled > p_o.Qty))) (fun h5 => ?_) (fun h5 => ?_)
    ·refine G_subR (Sub_lit (t := 29) (v := true) rfl h5) ?_
     refine G_off rfl rfl ?_
     refine G_off rfl rfl ?_
     refine G_off rfl rfl ?_
     refine G_op [0] (v := (bb true)) (E_p (by kernel_rfl)) rfl rfl ?_
     exact q_some fun h => RP_sub (by exact Sub_env ⟨(Wk_or1 h5), .refl _, .refl _, trivial⟩) h
    ·refine G_subR (Sub_lit (t := 29) (v := false) rfl h5) ?_
     refine G_op [0] (v := (.box [1001] 10)) (E_p (by kernel_rfl)) rfl rfl ?_
     refine G_op [0] (v := (ii p_o.Version)) (E_load (by kernel_rfl)) rfl rfl ?_
     refine G_op [0] (v := (bb ((decide (p_o.Version < 0))))) (E_p (by kernel_rfl)) rfl rfl ?_
     refine G_op [0] (v := (bb ((decide (p_o.Version < 0))))) (E_p (by kernel_rfl)) rfl rfl ?_
     exact q_some fun h => RP_sub (by exact Sub_env ⟨(Wk_or0 h5), .refl _, .refl _, trivial⟩) h
  ·refine q_two (decide (p_o.Filled < 0)) (fun h2 => ?_) (fun h2 => ?_)
   ·refine G_subR (Sub_lit (t := 22) (v := true) rfl h2) ?_
    refine G_off rfl rfl ?_
    refine G_off rfl rfl ?_
    refine G_off rfl rfl ?_
    refine G_off rfl rfl ?_
    refine G_off rfl rfl ?_
    refine G_op [0] (v := (bb true)) (E_p (by kernel_rfl)) rfl rfl ?_
    exact q_some fun h => RP_sub (by exact Sub_env ⟨(Wk_or1 h2), .refl _, .refl _, trivial⟩) h
   ·refine G_subR (Sub_lit (t := 22) (v := false) rfl h2) ?_
    refine G_op [0] (v := (.box [1001] 6)) (E_p (by kernel_rfl)) rfl rfl ?_
    refine G_op [0] (v := (ii p_o.Filled)) (E_load (by kernel_rfl)) rfl rfl ?_
    refine G_op [0] (v := (.box [1001] 4)) (E_p (by kernel_rfl)) rfl rfl ?_
    refine G_op [0] (v := (ii p_o.Qty)) (E_load (by kernel_rfl)) rfl rfl ?_
    refine G_op [0] (v := (bb ((decide (p_o.Filled > p_o.Qty))))) (E_p (by kernel_rfl)) rfl rfl ?_
    refine G_op [0] (v := (bb ((decide (p_o.Filled > p_o.Qty))))) (E_p (by kernel_rfl)) rfl rfl ?_
    exact q_some fun h => RP_sub (by exact Sub_env ⟨(Wk_or0 h2), .refl _, .refl _, trivial⟩) h
theorem s42 (x0 : OrderT) (ds : List DV) (hd : List.map z1 ds = List.map z1 [.agg (e_OrderT x0)]) : sp42 ds = (g_snaffleref07_Right x0).map fun r => .bool r :=
 specT_at (ea := fun (a : OrderT) => [.agg (e_OrderT a)]) (eb := fun (r : Bool) => .bool r) (g := fun (a : OrderT) => g_snaffleref07_Right a) inj42 x0 hd

def k72_0 : ACode := (.region (⟨(some 4), (.p (.foff 0 (.t 1))), none⟩ :: ⟨(some 5), (.r (.load 1 false (.t 4))), none⟩ :: ⟨(some 6), (.p (.build [(.int .i64 0), (.int .i64 0), (.int .i64 0), (.int .i64 0), (.int .i64 0), (.int .i64 0), (.int .i64 0), (.int .i64 0), (.int .i64 0), (.int .i64 0), (.bool false), (.int .i64 0), (.int .i64 0)] [(0, (1, (.c (.int .i64 6)))), (11, (1, (.t 5)))])), none⟩ :: ⟨(some 3), (.a (.alloc [(.int .i64 0), (.int .i64 0), (.int .i64 0), (.int .i64 0), (.int .i64 0), (.int .i64 0), (.int .i64 0), (.int .i64 0), (.int .i64 0), (.int .i64 0), (.bool false), (.int .i64 0), (.int .i64 0)])), none⟩ :: ⟨none, (.w (.store 13 (.t 3) (.t 6))), none⟩ :: []))
def k72_1 : ACode := (.region (⟨(some 7), (.p (.foff 1 (.t 1))), none⟩ :: ⟨(some 8), (.r (.load 1 false (.t 7))), none⟩ :: ⟨(some 9), (.p (.foff 12 (.t 3))), none⟩ :: ⟨none, (.w (.store 1 (.t 9) (.t 8))), none⟩ :: []))
def k72_2 : ACode := (.region (⟨(some 10), (.p (.foff 2 (.t 1))), none⟩ :: ⟨(some 11), (.r (.load 1 false (.t 10))), none⟩ :: ⟨(some 12), (.p (.foff 1 (.t 3))), none⟩ :: ⟨none, (.w (.store 1 (.t 12) (.t 11))), none⟩ :: []))
def k72_3 : ACode := (.region (⟨(some 13), (.p (.foff 3 (.t 1))), none⟩ :: ⟨(some 14), (.r (.load 1 false (.t 13))), none⟩ :: ⟨(some 15), (.p (.foff 5 (.t 3))), none⟩ :: ⟨none, (.w (.store 1 (.t 15) (.t 14))), none⟩ :: []))
def k72_4 : ACode := (.region (⟨(some 16), (.p (.foff 4 (.t 1))), none⟩ :: ⟨(some 17), (.r (.load 1 false (.t 16))), none⟩ :: ⟨(some 18), (.p (.foff 6 (.t 3))), none⟩ :: ⟨none, (.w (.store 1 (.t 18) (.t 17))), none⟩ :: []))
def k72_5 : ACode := (.seq k72_4 (.seq (.region (⟨(some 19), (.r (.load 13 true (.t 3))), none⟩ :: ⟨none, (.w (.store 13 (.t 2) (.t 19))), none⟩ :: [])) .ret))
def k72_6 : ACode := (.seq k72_3 k72_5)
def k72_7 : ACode := (.seq k72_2 k72_6)
def k72_8 : ACode := (.seq k72_1 k72_7)
def k72_9 : ACode := (.seq k72_0 k72_8)
def cd72 : ACode := (.seq (.region (⟨(some 1), (.a (.bx (.t 0))), none⟩ :: ⟨(some 2), (.a (.alloc [(.int .i64 0), (.int .i64 0), (.int .i64 0), (.int .i64 0), (.int .i64 0), (.int .i64 0), (.int .i64 0), (.int .i64 0), (.int .i64 0), (.int .i64 0), (.bool false), (.int .i64 0), (.int .i64 0)])), none⟩ :: [])) k72_9)
def rs72 : List ARes := [(.cell 2 13 true)]
def af72 : AFn := ⟨cd72, rs72, 20⟩
theorem c72 : compF Try.prog 72 = some af72 := by kernel_rfl
noncomputable def g_snaffleref06_OfNote (p_n : NoteT) : Option RecT := (some (RecT.mk 6 p_n.Order 0 0 0 p_n.Qty p_n.Price 0 0 0 false p_n.Seq p_n.What))
noncomputable def sp72 : List DV → Option DV := specT (fun (a : NoteT) => [.agg (e_NoteT a)]) (fun (r : RecT) => .agg (e_RecT r)) (fun (a : NoteT) => g_snaffleref06_OfNote a)
theorem inj72 : ∀ (a b : NoteT), List.map z1 ((fun (a : NoteT) => [.agg (e_NoteT a)]) a) = List.map z1 ((fun (a : NoteT) => [.agg (e_NoteT a)]) b) → a = b := by
 intro a0 b0 h
 simp only [List.map_cons, List.map_nil, List.cons.injEq, and_true] at h
 exact (e_NoteT_inj (DV.agg.inj h))
set_option maxHeartbeats 1000000 in
theorem w72 {C : FuncId → Con} (hC : ConOk Try.prog C) : ValOk Try.prog 72 sp72 := by
 refine valT_of hC c72 _ _ _ inj72 ?_
 intro p_n
 show Imq (g_snaffleref06_OfNote p_n) (fun _ => True) fun r => WP Try.prog C (fun _ => False) cd72 (retQ fun s => outV s rs72 = some (.agg (e_RecT r))) ⟨⟨20, [(0, (.val (.agg [(.int .i64 p_n.Seq), (.int .i64 p_n.What), (.int .i64 p_n.Order), (.int .i64 p_n.Qty), (.int .i64 p_n.Price)])))]⟩, mkH []⟩
 unfold g_snaffleref06_OfNote
 refine G_seq ?_
 refine G_region ?_
 refine G_op [1001] (v := (.box [1001] 0)) (E_a (u := (.box [1001] 0)) (b := (.box (lNoteT p_n))) (h' := [([1001], (.box (lNoteT p_n)))]) (by kernel_rfl) (by kernel_rfl) (by kernel_rfl)) rfl rfl ?_
 refine G_op [1002] (v := (.box [1002] 0)) (E_a (u := (.box [1002] 0)) (b := (.box zRecT)) (h' := [([1001], (.box (lNoteT p_n))), ([1002], (.box zRecT))]) (by kernel_rfl) (by kernel_rfl) (by kernel_rfl)) rfl rfl ?_
 refine G_nil ?_
 refine G_then ?_
 refine G_seq ?_
 refine G_region ?_
 refine G_op [0] (v := (.box [1001] 0)) (E_p (by kernel_rfl)) rfl rfl ?_
 refine G_op [0] (v := (ii p_n.Seq)) (E_load (by kernel_rfl)) rfl rfl ?_
 refine G_op [0] (v := (.agg [(ii 6), (ii 0), (ii 0), (ii 0), (ii 0), (ii 0), (ii 0), (ii 0), (ii 0), (ii 0), (bb false), (ii p_n.Seq), (ii 0)])) (E_p (by kernel_rfl)) rfl rfl ?_
 refine G_op [1003] (v := (.box [1003] 0)) (E_a (u := (.box [1003] 0)) (b := (.box zRecT)) (h' := [([1001], (.box (lNoteT p_n))), ([1002], (.box zRecT)), ([1003], (.box zRecT))]) (by kernel_rfl) (by kernel_rfl) (by kernel_rfl)) rfl rfl ?_
 refine G_op0 [0] (v := (.val (.tup []))) (E_store (b := [1003]) (o := 0) (cs := [(ii 6), (ii 0), (ii 0), (ii 0), (ii 0), (ii 0), (ii 0), (ii 0), (ii 0), (ii 0), (bb false), (ii p_n.Seq), (ii 0)]) (cells := zRecT) (cells' := [(ii 6), (ii 0), (ii 0), (ii 0), (ii 0), (ii 0), (ii 0), (ii 0), (ii 0), (ii 0), (bb false), (ii p_n.Seq), (ii 0)]) (h' := [([1001], (.box (lNoteT p_n))), ([1002], (.box zRecT)), ([1003], (.box [(ii 6), (ii 0), (ii 0), (ii 0), (ii 0), (ii 0), (ii 0), (ii 0), (ii 0), (ii 0), (bb false), (ii p_n.Seq), (ii 0)]))]) (by kernel_rfl) (by kernel_rfl) (by kernel_rfl) rfl (by kernel_rfl) (by kernel_rfl) (by kernel_rfl) (by kernel_rfl)) rfl ?_
 refine G_nil ?_
 refine G_then ?_
 refine G_seq ?_
 refine G_region ?_
 refine G_op [0] (v := (.box [1001] 1)) (E_p (by kernel_rfl)) rfl rfl ?_
 refine G_op [0] (v := (ii p_n.What)) (E_load (by kernel_rfl)) rfl rfl ?_
 refine G_op [0] (v := (.box [1003] 12)) (E_p (by kernel_rfl)) rfl rfl ?_
 refine G_op0 [0] (v := (.val (.tup []))) (E_store (b := [1003]) (o := 12) (cs := [(ii p_n.What)]) (cells := [(ii 6), (ii 0), (ii 0), (ii 0), (ii 0), (ii 0), (ii 0), (ii 0), (ii 0), (ii 0), (bb false), (ii p_n.Seq), (ii 0)]) (cells' := [(ii 6), (ii 0), (ii 0), (ii 0), (ii 0), (ii 0), (ii 0), (ii 0), (ii 0), (ii 0), (bb false), (ii p_n.Seq), (ii p_n.What)]) (h' := [([1001], (.box (lNoteT p_n))), ([1002], (.box zRecT)), ([1003], (.box [(ii 6), (ii 0), (ii 0), (ii 0), (ii 0), (ii 0), (ii 0), (ii 0), (ii 0), (ii 0), (bb false), (ii p_n.Seq), (ii p_n.What)]))]) (by kernel_rfl) (by kernel_rfl) (by kernel_rfl) rfl (by kernel_rfl) (by kernel_rfl) (by kernel_rfl) (by kernel_rfl)) rfl ?_
 refine G_nil ?_
 refine G_then ?_
 refine G_seq ?_
 refine G_region ?_
 refine G_op [0] (v := (.box [1001] 2)) (E_p (by kernel_rfl)) rfl rfl ?_
 refine G_op [0] (v := (ii p_n.Order)) (E_load (by kernel_rfl)) rfl rfl ?_
 refine G_op [0] (v := (.box [1003] 1)) (E_p (by kernel_rfl)) rfl rfl ?_
 refine G_op0 [0] (v := (.val (.tup []))) (E_store (b := [1003]) (o := 1) (cs := [(ii p_n.Order)]) (cells := [(ii 6), (ii 0), (ii 0), (ii 0), (ii 0), (ii 0), (ii 0), (ii 0), (ii 0), (ii 0), (bb false), (ii p_n.Seq), (ii p_n.What)]) (cells' := [(ii 6), (ii p_n.Order), (ii 0), (ii 0), (ii 0), (ii 0), (ii 0), (ii 0), (ii 0), (ii 0), (bb false), (ii p_n.Seq), (ii p_n.What)]) (h' := [([1001], (.box (lNoteT p_n))), ([1002], (.box zRecT)), ([1003], (.box [(ii 6), (ii p_n.Order), (ii 0), (ii 0), (ii 0), (ii 0), (ii 0), (ii 0), (ii 0), (ii 0), (bb false), (ii p_n.Seq), (ii p_n.What)]))]) (by kernel_rfl) (by kernel_rfl) (by kernel_rfl) rfl (by kernel_rfl) (by kernel_rfl) (by kernel_rfl) (by kernel_rfl)) rfl ?_
 refine G_nil ?_
 refine G_then ?_
 refine G_subW (s0 := ⟨⟨20, [(3, (.box [1003] 0)), (2, (.box [1002] 0)), (1, (.box [1001] 0))]⟩, mkH [([1001], (.box (lNoteT p_n))), ([1002], (.box zRecT)), ([1003], (.box [(ii 6), (ii p_n.Order), (ii 0), (ii 0), (ii 0), (ii 0), (ii 0), (ii 0), (ii 0), (ii 0), (bb false), (ii p_n.Seq), (ii p_n.What)]))]⟩) (by exact Sub_env ⟨.refl _, .refl _, .refl _, trivial⟩) ?_
 refine G_seq ?_
 refine G_region ?_
 refine G_op [0] (v := (.box [1001] 3)) (E_p (by kernel_rfl)) rfl rfl ?_
 refine G_op [0] (v := (ii p_n.Qty)) (E_load (by kernel_rfl)) rfl rfl ?_
 refine G_op [0] (v := (.box [1003] 5)) (E_p (by kernel_rfl)) rfl rfl ?_
 refine G_op0 [0] (v := (.val (.tup []))) (E_store (b := [1003]) (o := 5) (cs := [(ii p_n.Qty)]) (cells := [(ii 6), (ii p_n.Order), (ii 0), (ii 0), (ii 0), (ii 0), (ii 0), (ii 0), (ii 0), (ii 0), (bb false), (ii p_n.Seq), (ii p_n.What)]) (cells' := [(ii 6), (ii p_n.Order), (ii 0), (ii 0), (ii 0), (ii p_n.Qty), (ii 0), (ii 0), (ii 0), (ii 0), (bb false), (ii p_n.Seq), (ii p_n.What)]) (h' := [([1001], (.box (lNoteT p_n))), ([1002], (.box zRecT)), ([1003], (.box [(ii 6), (ii p_n.Order), (ii 0), (ii 0), (ii 0), (ii p_n.Qty), (ii 0), (ii 0), (ii 0), (ii 0), (bb false), (ii p_n.Seq), (ii p_n.What)]))]) (by kernel_rfl) (by kernel_rfl) (by kernel_rfl) rfl (by kernel_rfl) (by kernel_rfl) (by kernel_rfl) (by kernel_rfl)) rfl ?_
 refine G_nil ?_
 refine G_then ?_
 refine G_seq ?_
 refine G_region ?_
 refine G_op [0] (v := (.box [1001] 4)) (E_p (by kernel_rfl)) rfl rfl ?_
 refine G_op [0] (v := (ii p_n.Price)) (E_load (by kernel_rfl)) rfl rfl ?_
 refine G_op [0] (v := (.box [1003] 6)) (E_p (by kernel_rfl)) rfl rfl ?_
 refine G_op0 [0] (v := (.val (.tup []))) (E_store (b := [1003]) (o := 6) (cs := [(ii p_n.Price)]) (cells := [(ii 6), (ii p_n.Order), (ii 0), (ii 0), (ii 0), (ii p_n.Qty), (ii 0), (ii 0), (ii 0), (ii 0), (bb false), (ii p_n.Seq), (ii p_n.What)]) (cells' := [(ii 6), (ii p_n.Order), (ii 0), (ii 0), (ii 0), (ii p_n.Qty), (ii p_n.Price), (ii 0), (ii 0), (ii 0), (bb false), (ii p_n.Seq), (ii p_n.What)]) (h' := [([1001], (.box (lNoteT p_n))), ([1002], (.box zRecT)), ([1003], (.box [(ii 6), (ii p_n.Order), (ii 0), (ii 0), (ii 0), (ii p_n.Qty), (ii p_n.Price), (ii 0), (ii 0), (ii 0), (bb false), (ii p_n.Seq), (ii p_n.What)]))]) (by kernel_rfl) (by kernel_rfl) (by kernel_rfl) rfl (by kernel_rfl) (by kernel_rfl) (by kernel_rfl) (by kernel_rfl)) rfl ?_
 refine G_nil ?_
 refine G_then ?_
 refine G_seq ?_
 refine G_region ?_
 refine G_op [0] (v := (.agg [(ii 6), (ii p_n.Order), (ii 0), (ii 0), (ii 0), (ii p_n.Qty), (ii p_n.Price), (ii 0), (ii 0), (ii 0), (bb false), (ii p_n.Seq), (ii p_n.What)])) (E_load (by kernel_rfl)) rfl rfl ?_
 refine G_op0 [0] (v := (.val (.tup []))) (E_store (b := [1002]) (o := 0) (cs := [(ii 6), (ii p_n.Order), (ii 0), (ii 0), (ii 0), (ii p_n.Qty), (ii p_n.Price), (ii 0), (ii 0), (ii 0), (bb false), (ii p_n.Seq), (ii p_n.What)]) (cells := zRecT) (cells' := [(ii 6), (ii p_n.Order), (ii 0), (ii 0), (ii 0), (ii p_n.Qty), (ii p_n.Price), (ii 0), (ii 0), (ii 0), (bb false), (ii p_n.Seq), (ii p_n.What)]) (h' := [([1001], (.box (lNoteT p_n))), ([1002], (.box [(ii 6), (ii p_n.Order), (ii 0), (ii 0), (ii 0), (ii p_n.Qty), (ii p_n.Price), (ii 0), (ii 0), (ii 0), (bb false), (ii p_n.Seq), (ii p_n.What)])), ([1003], (.box [(ii 6), (ii p_n.Order), (ii 0), (ii 0), (ii 0), (ii p_n.Qty), (ii p_n.Price), (ii 0), (ii 0), (ii 0), (bb false), (ii p_n.Seq), (ii p_n.What)]))]) (by kernel_rfl) (by kernel_rfl) (by kernel_rfl) rfl (by kernel_rfl) (by kernel_rfl) (by kernel_rfl) (by kernel_rfl)) rfl ?_
 refine G_nil ?_
 refine G_then ?_
 refine G_subW (s0 := ⟨⟨20, [(2, (.box [1002] 0))]⟩, mkH [([1002], (.box [(ii 6), (ii p_n.Order), (ii 0), (ii 0), (ii 0), (ii p_n.Qty), (ii p_n.Price), (ii 0), (ii 0), (ii 0), (bb false), (ii p_n.Seq), (ii p_n.What)]))]⟩) (by exact Sub_keep ⟨.refl _, trivial⟩ ⟨⟨_, (by kernel_rfl), .refl _⟩, trivial⟩ (by kernel_rfl) (by kernel_rfl)) ?_
 refine G_ret ?_
 refine G_retR ?_
 refine q_some fun hA => ?_
 show outV _ _ = some _
 kernel_rfl
theorem s72 (x0 : NoteT) (ds : List DV) (hd : List.map z1 ds = List.map z1 [.agg (e_NoteT x0)]) : sp72 ds = (g_snaffleref06_OfNote x0).map fun r => .agg (e_RecT r) :=
 specT_at (ea := fun (a : NoteT) => [.agg (e_NoteT a)]) (eb := fun (r : RecT) => .agg (e_RecT r)) (g := fun (a : NoteT) => g_snaffleref06_OfNote a) inj72 x0 hd
end Go.AI
