import Derived.Test.YtpolaeonmmolnaaProg
import Derived.Test.YtpolaeonmmolnaaALj
namespace Go.AI
open Go.Proofs
set_option linter.unusedVariables false
set_option linter.unusedSimpArgs false
structure RecT where
 Kind : Int
 Order : Int
 Account : Int
 Symbol : Int
 Side : Int
 Qty : Int
 Price : Int
 Long : Int
 Short : Int
 Open : Int
 On : Bool
 Seq : Int
 What : Int
 deriving DecidableEq
def e_RecT (x : RecT) : List DV := [(.int .i64 x.Kind), (.int .i64 x.Order), (.int .i64 x.Account), (.int .i64 x.Symbol), (.int .i64 x.Side), (.int .i64 x.Qty), (.int .i64 x.Price), (.int .i64 x.Long), (.int .i64 x.Short), (.int .i64 x.Open), (.bool x.On), (.int .i64 x.Seq), (.int .i64 x.What)]
theorem e_RecT_inj {x y : RecT} (h : e_RecT x = e_RecT y) : x = y := by
 obtain ⟨a1, a2, a3, a4, a5, a6, a7, a8, a9, a10, a11, a12, a13⟩ := x
 obtain ⟨b1, b2, b3, b4, b5, b6, b7, b8, b9, b10, b11, b12, b13⟩ := y
 simp only [e_RecT, List.cons.injEq, DV.int.injEq, DV.bool.injEq, DV.str.injEq, DV.sl.injEq, true_and, and_true] at h
 obtain ⟨h0, h1, h2, h3, h4, h5, h6, h7, h8, h9, h10, h11, h12⟩ := h
 cases h0
 cases h1
 cases h2
 cases h3
 cases h4
 cases h5
 cases h6
 cases h7
 cases h8
 cases h9
 cases h10
 cases h11
 cases h12
 rfl
structure OrderT where
 Id : Int
 Account : Int
 Symbol : Int
 Side : Int
 Qty : Int
 Price : Int
 Filled : Int
 Phase : Int
 NewQty : Int
 NewPrice : Int
 Version : Int
 Asked : Bool
 deriving DecidableEq
def e_OrderT (x : OrderT) : List DV := [(.int .i64 x.Id), (.int .i64 x.Account), (.int .i64 x.Symbol), (.int .i64 x.Side), (.int .i64 x.Qty), (.int .i64 x.Price), (.int .i64 x.Filled), (.int .i64 x.Phase), (.int .i64 x.NewQty), (.int .i64 x.NewPrice), (.int .i64 x.Version), (.bool x.Asked)]
theorem e_OrderT_inj {x y : OrderT} (h : e_OrderT x = e_OrderT y) : x = y := by
 obtain ⟨a1, a2, a3, a4, a5, a6, a7, a8, a9, a10, a11, a12⟩ := x
 obtain ⟨b1, b2, b3, b4, b5, b6, b7, b8, b9, b10, b11, b12⟩ := y
 simp only [e_OrderT, List.cons.injEq, DV.int.injEq, DV.bool.injEq, DV.str.injEq, DV.sl.injEq, true_and, and_true] at h
 obtain ⟨h0, h1, h2, h3, h4, h5, h6, h7, h8, h9, h10, h11⟩ := h
 cases h0
 cases h1
 cases h2
 cases h3
 cases h4
 cases h5
 cases h6
 cases h7
 cases h8
 cases h9
 cases h10
 cases h11
 rfl
structure NoteT where
 Seq : Int
 What : Int
 Order : Int
 Qty : Int
 Price : Int
 deriving DecidableEq
abbrev ii (n : Int) : AV := .val (.int .i64 n)
abbrev bb (b : Bool) : AV := .val (.bool b)
abbrev lRecT (E : RecT) : List AV := [(ii E.Kind), (ii E.Order), (ii E.Account), (ii E.Symbol), (ii E.Side), (ii E.Qty), (ii E.Price), (ii E.Long), (ii E.Short), (ii E.Open), (bb E.On), (ii E.Seq), (ii E.What)]
abbrev zRecT : List AV := [(ii 0), (ii 0), (ii 0), (ii 0), (ii 0), (ii 0), (ii 0), (ii 0), (ii 0), (ii 0), (bb false), (ii 0), (ii 0)]
abbrev lOrderT (E : OrderT) : List AV := [(ii E.Id), (ii E.Account), (ii E.Symbol), (ii E.Side), (ii E.Qty), (ii E.Price), (ii E.Filled), (ii E.Phase), (ii E.NewQty), (ii E.NewPrice), (ii E.Version), (bb E.Asked)]
abbrev zOrderT : List AV := [(ii 0), (ii 0), (ii 0), (ii 0), (ii 0), (ii 0), (ii 0), (ii 0), (ii 0), (ii 0), (ii 0), (bb false)]
abbrev lNoteT (E : NoteT) : List AV := [(ii E.Seq), (ii E.What), (ii E.Order), (ii E.Qty), (ii E.Price)]
abbrev zNoteT : List AV := [(ii 0), (ii 0), (ii 0), (ii 0), (ii 0)]
def e_NoteT (x : NoteT) : List DV := [(.int .i64 x.Seq), (.int .i64 x.What), (.int .i64 x.Order), (.int .i64 x.Qty), (.int .i64 x.Price)]
theorem e_NoteT_inj {x y : NoteT} (h : e_NoteT x = e_NoteT y) : x = y := by
 obtain ⟨a1, a2, a3, a4, a5⟩ := x
 obtain ⟨b1, b2, b3, b4, b5⟩ := y
 simp only [e_NoteT, List.cons.injEq, DV.int.injEq, DV.bool.injEq, DV.str.injEq, DV.sl.injEq, true_and, and_true] at h
 obtain ⟨h0, h1, h2, h3, h4⟩ := h
 cases h0
 cases h1
 cases h2
 cases h3
 cases h4
 rfl
def R_RecT (x : RecT) : Prop := R_i64 x.Kind ∧ R_i64 x.Order ∧ R_i64 x.Account ∧ R_i64 x.Symbol ∧ R_i64 x.Side ∧ R_i64 x.Qty ∧ R_i64 x.Price ∧ R_i64 x.Long ∧ R_i64 x.Short ∧ R_i64 x.Open ∧ R_bool x.On ∧ R_i64 x.Seq ∧ R_i64 x.What ∧ True
theorem has_RecT {ds : List DV} (h : HasSh (.cons (.int .i64) (.cons (.int .i64) (.cons (.int .i64) (.cons (.int .i64) (.cons (.int .i64) (.cons (.int .i64) (.cons (.int .i64) (.cons (.int .i64) (.cons (.int .i64) (.cons (.int .i64) (.cons .bool (.cons (.int .i64) (.cons (.int .i64) .nil))))))))))))) ds) : ∃ x : RecT, ds = e_RecT x ∧ R_RecT x := by
 obtain ⟨_, _, rfl, _, hf, h⟩ := h
 obtain ⟨x0, rfl, r0⟩ := has_i64 hf
 obtain ⟨_, _, rfl, _, hf, h⟩ := h
 obtain ⟨x1, rfl, r1⟩ := has_i64 hf
 obtain ⟨_, _, rfl, _, hf, h⟩ := h
 obtain ⟨x2, rfl, r2⟩ := has_i64 hf
 obtain ⟨_, _, rfl, _, hf, h⟩ := h
 obtain ⟨x3, rfl, r3⟩ := has_i64 hf
 obtain ⟨_, _, rfl, _, hf, h⟩ := h
 obtain ⟨x4, rfl, r4⟩ := has_i64 hf
 obtain ⟨_, _, rfl, _, hf, h⟩ := h
 obtain ⟨x5, rfl, r5⟩ := has_i64 hf
 obtain ⟨_, _, rfl, _, hf, h⟩ := h
 obtain ⟨x6, rfl, r6⟩ := has_i64 hf
 obtain ⟨_, _, rfl, _, hf, h⟩ := h
 obtain ⟨x7, rfl, r7⟩ := has_i64 hf
 obtain ⟨_, _, rfl, _, hf, h⟩ := h
 obtain ⟨x8, rfl, r8⟩ := has_i64 hf
 obtain ⟨_, _, rfl, _, hf, h⟩ := h
 obtain ⟨x9, rfl, r9⟩ := has_i64 hf
 obtain ⟨_, _, rfl, _, hf, h⟩ := h
 obtain ⟨x10, rfl, r10⟩ := has_bool hf
 obtain ⟨_, _, rfl, _, hf, h⟩ := h
 obtain ⟨x11, rfl, r11⟩ := has_i64 hf
 obtain ⟨_, _, rfl, _, hf, h⟩ := h
 obtain ⟨x12, rfl, r12⟩ := has_i64 hf
 cases h
 exact ⟨⟨x0, x1, x2, x3, x4, x5, x6, x7, x8, x9, x10, x11, x12⟩, rfl, ⟨r0, r1, r2, r3, r4, r5, r6, r7, r8, r9, r10, r11, r12, trivial⟩⟩
def R_OrderT (x : OrderT) : Prop := R_i64 x.Id ∧ R_i64 x.Account ∧ R_i64 x.Symbol ∧ R_i64 x.Side ∧ R_i64 x.Qty ∧ R_i64 x.Price ∧ R_i64 x.Filled ∧ R_i64 x.Phase ∧ R_i64 x.NewQty ∧ R_i64 x.NewPrice ∧ R_i64 x.Version ∧ R_bool x.Asked ∧ True
theorem has_OrderT {ds : List DV} (h : HasSh (.cons (.int .i64) (.cons (.int .i64) (.cons (.int .i64) (.cons (.int .i64) (.cons (.int .i64) (.cons (.int .i64) (.cons (.int .i64) (.cons (.int .i64) (.cons (.int .i64) (.cons (.int .i64) (.cons (.int .i64) (.cons .bool .nil)))))))))))) ds) : ∃ x : OrderT, ds = e_OrderT x ∧ R_OrderT x := by
 obtain ⟨_, _, rfl, _, hf, h⟩ := h
 obtain ⟨x0, rfl, r0⟩ := has_i64 hf
 obtain ⟨_, _, rfl, _, hf, h⟩ := h
 obtain ⟨x1, rfl, r1⟩ := has_i64 hf
 obtain ⟨_, _, rfl, _, hf, h⟩ := h
 obtain ⟨x2, rfl, r2⟩ := has_i64 hf
 obtain ⟨_, _, rfl, _, hf, h⟩ := h
 obtain ⟨x3, rfl, r3⟩ := has_i64 hf
 obtain ⟨_, _, rfl, _, hf, h⟩ := h
 obtain ⟨x4, rfl, r4⟩ := has_i64 hf
 obtain ⟨_, _, rfl, _, hf, h⟩ := h
 obtain ⟨x5, rfl, r5⟩ := has_i64 hf
 obtain ⟨_, _, rfl, _, hf, h⟩ := h
 obtain ⟨x6, rfl, r6⟩ := has_i64 hf
 obtain ⟨_, _, rfl, _, hf, h⟩ := h
 obtain ⟨x7, rfl, r7⟩ := has_i64 hf
 obtain ⟨_, _, rfl, _, hf, h⟩ := h
 obtain ⟨x8, rfl, r8⟩ := has_i64 hf
 obtain ⟨_, _, rfl, _, hf, h⟩ := h
 obtain ⟨x9, rfl, r9⟩ := has_i64 hf
 obtain ⟨_, _, rfl, _, hf, h⟩ := h
 obtain ⟨x10, rfl, r10⟩ := has_i64 hf
 obtain ⟨_, _, rfl, _, hf, h⟩ := h
 obtain ⟨x11, rfl, r11⟩ := has_bool hf
 cases h
 exact ⟨⟨x0, x1, x2, x3, x4, x5, x6, x7, x8, x9, x10, x11⟩, rfl, ⟨r0, r1, r2, r3, r4, r5, r6, r7, r8, r9, r10, r11, trivial⟩⟩
def R_NoteT (x : NoteT) : Prop := R_i64 x.Seq ∧ R_i64 x.What ∧ R_i64 x.Order ∧ R_i64 x.Qty ∧ R_i64 x.Price ∧ True
theorem has_NoteT {ds : List DV} (h : HasSh (.cons (.int .i64) (.cons (.int .i64) (.cons (.int .i64) (.cons (.int .i64) (.cons (.int .i64) .nil))))) ds) : ∃ x : NoteT, ds = e_NoteT x ∧ R_NoteT x := by
 obtain ⟨_, _, rfl, _, hf, h⟩ := h
 obtain ⟨x0, rfl, r0⟩ := has_i64 hf
 obtain ⟨_, _, rfl, _, hf, h⟩ := h
 obtain ⟨x1, rfl, r1⟩ := has_i64 hf
 obtain ⟨_, _, rfl, _, hf, h⟩ := h
 obtain ⟨x2, rfl, r2⟩ := has_i64 hf
 obtain ⟨_, _, rfl, _, hf, h⟩ := h
 obtain ⟨x3, rfl, r3⟩ := has_i64 hf
 obtain ⟨_, _, rfl, _, hf, h⟩ := h
 obtain ⟨x4, rfl, r4⟩ := has_i64 hf
 cases h
 exact ⟨⟨x0, x1, x2, x3, x4⟩, rfl, ⟨r0, r1, r2, r3, r4, trivial⟩⟩
def k75_0 : ACode := (.region (⟨(some 4), (.p (.foff 0 (.t 1))), none⟩ :: ⟨(some 5), (.r (.load 1 false (.t 4))), none⟩ :: ⟨(some 6), (.p (.build [(.int .i64 0), (.int .i64 0), (.int .i64 0), (.int .i64 0), (.int .i64 0), (.int .i64 0), (.int .i64 0), (.int .i64 0), (.int .i64 0), (.int .i64 0), (.bool false), (.int .i64 0), (.int .i64 0)] [(0, (1, (.t 5)))])), none⟩ :: ⟨(some 3), (.a (.alloc [(.int .i64 0), (.int .i64 0), (.int .i64 0), (.int .i64 0), (.int .i64 0), (.int .i64 0), (.int .i64 0), (.int .i64 0), (.int .i64 0), (.int .i64 0), (.bool false), (.int .i64 0), (.int .i64 0)])), none⟩ :: ⟨none, (.w (.store 13 (.t 3) (.t 6))), none⟩ :: []))
def k75_1 : ACode := (.seq (.region (⟨(some 10), (.p (.bin .eql (.t 8) (.c (.int .i64 1)))), none⟩ :: ⟨(some 9), (.p (.mv (.t 10))), none⟩ :: [])) (.cond (.t 9) (.exit 1) .skip))
def k75_2 : ACode := (.seq (.region (⟨(some 12), (.p (.bin .eql (.t 8) (.c (.int .i64 2)))), none⟩ :: ⟨(some 11), (.p (.mv (.t 12))), none⟩ :: [])) (.cond (.t 11) (.exit 2) .skip))
def k75_3 : ACode := (.seq (.region (⟨(some 14), (.p (.bin .eql (.t 8) (.c (.int .i64 3)))), none⟩ :: ⟨(some 13), (.p (.mv (.t 14))), none⟩ :: [])) (.cond (.t 13) (.exit 3) .skip))
def k75_4 : ACode := (.seq (.region (⟨(some 16), (.p (.bin .eql (.t 8) (.c (.int .i64 4)))), none⟩ :: ⟨(some 15), (.p (.mv (.t 16))), none⟩ :: [])) (.cond (.t 15) (.exit 4) .skip))
def k75_5 : ACode := (.seq (.region (⟨(some 18), (.p (.bin .eql (.t 8) (.c (.int .i64 5)))), none⟩ :: ⟨(some 17), (.p (.mv (.t 18))), none⟩ :: [])) (.cond (.t 17) (.exit 5) .skip))
def k75_6 : ACode := (.seq (.region (⟨(some 20), (.p (.bin .eql (.t 8) (.c (.int .i64 6)))), none⟩ :: ⟨(some 19), (.p (.mv (.t 20))), none⟩ :: [])) (.cond (.t 19) (.exit 6) .skip))
def k75_7 : ACode := (.seq k75_5 k75_6)
def k75_8 : ACode := (.seq k75_4 k75_7)
def k75_9 : ACode := (.seq k75_3 k75_8)
def k75_10 : ACode := (.seq k75_2 k75_9)
def k75_11 : ACode := (.seq k75_1 k75_10)
def k75_12 : ACode := (.seq k75_11 (.exit 0))
def k75_13 : ACode := (.block 1 k75_12)
def k75_14 : ACode := (.drawA (⟨(some 21), (.p (.foff 2 (.t 1))), none⟩ :: ⟨(some 22), (.r (.load 1 false (.t 21))), none⟩ :: ⟨(some 23), (.p (.foff 3 (.t 1))), none⟩ :: ⟨(some 24), (.r (.load 1 false (.t 23))), none⟩ :: ⟨(some 25), (.p (.foff 4 (.t 1))), none⟩ :: ⟨(some 26), (.r (.load 1 false (.t 25))), none⟩ :: ⟨(some 27), (.p (.foff 2 (.t 3))), none⟩ :: ⟨none, (.w (.store 1 (.t 27) (.t 22))), none⟩ :: ⟨(some 28), (.p (.foff 3 (.t 3))), none⟩ :: ⟨none, (.w (.store 1 (.t 28) (.t 24))), none⟩ :: ⟨(some 29), (.p (.foff 4 (.t 3))), none⟩ :: ⟨none, (.w (.store 1 (.t 29) (.t 26))), none⟩ :: []) [(29, 3), (28, 3), (27, 3), (3, 3), (25, 1), (23, 1), (21, 1), (1, 1)] [(1, 3), (1, 3), (1, 3), (1, 3), (1, 3), (1, 3), (1, 3), (1, 3), (1, 3)])
def k75_15 : ACode := (.seq k75_13 k75_14)
def k75_16 : ACode := (.block 2 k75_15)
def k75_17 : ACode := (.drawA (⟨(some 30), (.p (.foff 5 (.t 1))), none⟩ :: ⟨(some 31), (.r (.load 1 false (.t 30))), none⟩ :: ⟨(some 32), (.p (.foff 6 (.t 1))), none⟩ :: ⟨(some 33), (.r (.load 1 false (.t 32))), none⟩ :: ⟨(some 34), (.p (.foff 5 (.t 3))), none⟩ :: ⟨none, (.w (.store 1 (.t 34) (.t 31))), none⟩ :: ⟨(some 35), (.p (.foff 6 (.t 3))), none⟩ :: ⟨none, (.w (.store 1 (.t 35) (.t 33))), none⟩ :: []) [(35, 3), (34, 3), (3, 3), (32, 1), (30, 1), (1, 1)] [(1, 3), (1, 3), (1, 3), (1, 3)])
def k75_18 : ACode := (.seq k75_16 k75_17)
def k75_19 : ACode := (.block 3 k75_18)
def k75_20 : ACode := (.region (⟨(some 36), (.p (.foff 1 (.t 1))), none⟩ :: ⟨(some 37), (.r (.load 1 false (.t 36))), none⟩ :: ⟨(some 38), (.p (.foff 1 (.t 3))), none⟩ :: ⟨none, (.w (.store 1 (.t 38) (.t 37))), none⟩ :: []))
def k75_21 : ACode := (.seq k75_20 (.exit 0))
def k75_22 : ACode := (.seq k75_19 k75_21)
def k75_23 : ACode := (.block 4 k75_22)
def k75_24 : ACode := (.drawA (⟨(some 39), (.p (.foff 2 (.t 1))), none⟩ :: ⟨(some 40), (.r (.load 1 false (.t 39))), none⟩ :: ⟨(some 41), (.p (.foff 3 (.t 1))), none⟩ :: ⟨(some 42), (.r (.load 1 false (.t 41))), none⟩ :: ⟨(some 43), (.p (.foff 7 (.t 1))), none⟩ :: ⟨(some 44), (.r (.load 1 false (.t 43))), none⟩ :: ⟨(some 45), (.p (.foff 8 (.t 1))), none⟩ :: ⟨(some 46), (.r (.load 1 false (.t 45))), none⟩ :: ⟨(some 47), (.p (.foff 9 (.t 1))), none⟩ :: ⟨(some 48), (.r (.load 1 false (.t 47))), none⟩ :: ⟨(some 49), (.p (.foff 2 (.t 3))), none⟩ :: ⟨none, (.w (.store 1 (.t 49) (.t 40))), none⟩ :: ⟨(some 50), (.p (.foff 3 (.t 3))), none⟩ :: ⟨none, (.w (.store 1 (.t 50) (.t 42))), none⟩ :: ⟨(some 51), (.p (.foff 7 (.t 3))), none⟩ :: ⟨none, (.w (.store 1 (.t 51) (.t 44))), none⟩ :: ⟨(some 52), (.p (.foff 8 (.t 3))), none⟩ :: ⟨none, (.w (.store 1 (.t 52) (.t 46))), none⟩ :: ⟨(some 53), (.p (.foff 9 (.t 3))), none⟩ :: ⟨none, (.w (.store 1 (.t 53) (.t 48))), none⟩ :: []) [(53, 3), (52, 3), (51, 3), (50, 3), (49, 3), (3, 3), (47, 1), (45, 1), (43, 1), (41, 1), (39, 1), (1, 1)] [(1, 3), (1, 3), (1, 3), (1, 3), (1, 3), (1, 3), (1, 3), (1, 3), (1, 3), (1, 3), (1, 3), (1, 3), (1, 3), (1, 3), (1, 3), (1, 3), (1, 3), (1, 3), (1, 3), (1, 3), (1, 3), (1, 3), (1, 3), (1, 3), (1, 3)])
def k75_25 : ACode := (.seq k75_24 (.exit 0))
def k75_26 : ACode := (.seq k75_23 k75_25)
def k75_27 : ACode := (.block 5 k75_26)
def k75_28 : ACode := (.region (⟨(some 54), (.p (.foff 10 (.t 1))), none⟩ :: ⟨(some 55), (.r (.load 1 false (.t 54))), none⟩ :: ⟨(some 56), (.p (.foff 10 (.t 3))), none⟩ :: ⟨none, (.w (.store 1 (.t 56) (.t 55))), none⟩ :: []))
def k75_29 : ACode := (.seq k75_28 (.exit 0))
def k75_30 : ACode := (.seq k75_27 k75_29)
def k75_31 : ACode := (.block 6 k75_30)
def k75_32 : ACode := (.drawA (⟨(some 57), (.p (.foff 11 (.t 1))), none⟩ :: ⟨(some 58), (.r (.load 1 false (.t 57))), none⟩ :: ⟨(some 59), (.p (.foff 12 (.t 1))), none⟩ :: ⟨(some 60), (.r (.load 1 false (.t 59))), none⟩ :: ⟨(some 61), (.p (.foff 1 (.t 1))), none⟩ :: ⟨(some 62), (.r (.load 1 false (.t 61))), none⟩ :: ⟨(some 63), (.p (.foff 5 (.t 1))), none⟩ :: ⟨(some 64), (.r (.load 1 false (.t 63))), none⟩ :: ⟨(some 65), (.p (.foff 6 (.t 1))), none⟩ :: ⟨(some 66), (.r (.load 1 false (.t 65))), none⟩ :: ⟨(some 67), (.p (.foff 11 (.t 3))), none⟩ :: ⟨none, (.w (.store 1 (.t 67) (.t 58))), none⟩ :: ⟨(some 68), (.p (.foff 12 (.t 3))), none⟩ :: ⟨none, (.w (.store 1 (.t 68) (.t 60))), none⟩ :: ⟨(some 69), (.p (.foff 1 (.t 3))), none⟩ :: ⟨none, (.w (.store 1 (.t 69) (.t 62))), none⟩ :: ⟨(some 70), (.p (.foff 5 (.t 3))), none⟩ :: ⟨none, (.w (.store 1 (.t 70) (.t 64))), none⟩ :: ⟨(some 71), (.p (.foff 6 (.t 3))), none⟩ :: ⟨none, (.w (.store 1 (.t 71) (.t 66))), none⟩ :: []) [(71, 3), (70, 3), (69, 3), (68, 3), (67, 3), (3, 3), (65, 1), (63, 1), (61, 1), (59, 1), (57, 1), (1, 1)] [(1, 3), (1, 3), (1, 3), (1, 3), (1, 3), (1, 3), (1, 3), (1, 3), (1, 3), (1, 3), (1, 3), (1, 3), (1, 3), (1, 3), (1, 3), (1, 3), (1, 3), (1, 3), (1, 3), (1, 3), (1, 3), (1, 3), (1, 3), (1, 3), (1, 3)])
def k75_33 : ACode := (.seq k75_32 (.exit 0))
def k75_34 : ACode := (.seq k75_31 k75_33)
def k75_35 : ACode := (.block 0 k75_34)
def k75_36 : ACode := (.seq (.region (⟨(some 7), (.p (.foff 0 (.t 1))), none⟩ :: ⟨(some 8), (.r (.load 1 false (.t 7))), none⟩ :: [])) k75_35)
def k75_37 : ACode := (.seq k75_36 (.seq (.region (⟨(some 72), (.r (.load 13 true (.t 3))), none⟩ :: ⟨none, (.w (.store 13 (.t 2) (.t 72))), none⟩ :: [])) .ret))
def k75_38 : ACode := (.seq k75_0 k75_37)
def cd75 : ACode := (.seq (.region (⟨(some 1), (.a (.bx (.t 0))), none⟩ :: ⟨(some 2), (.a (.alloc [(.int .i64 0), (.int .i64 0), (.int .i64 0), (.int .i64 0), (.int .i64 0), (.int .i64 0), (.int .i64 0), (.int .i64 0), (.int .i64 0), (.int .i64 0), (.bool false), (.int .i64 0), (.int .i64 0)])), none⟩ :: [])) k75_38)
def rs75 : List ARes := [(.cell 2 13 true)]
def af75 : AFn := ⟨cd75, rs75, 73⟩
theorem c75 : compF Try.prog 75 = some af75 := by kernel_rfl
noncomputable def g_rec_fields (p_r : RecT) : Option RecT := (bif (p_r.Kind == 1) then (some (RecT.mk p_r.Kind p_r.Order p_r.Account p_r.Symbol p_r.Side p_r.Qty p_r.Price 0 0 0 false 0 0)) else (bif (p_r.Kind == 2) then (some (RecT.mk p_r.Kind p_r.Order 0 0 0 p_r.Qty p_r.Price 0 0 0 false 0 0)) else (bif (p_r.Kind == 3) then (some (RecT.mk p_r.Kind p_r.Order 0 0 0 0 0 0 0 0 false 0 0)) else (bif (p_r.Kind == 4) then (some (RecT.mk p_r.Kind 0 p_r.Account p_r.Symbol 0 0 0 p_r.Long p_r.Short p_r.Open false 0 0)) else (bif (p_r.Kind == 5) then (some (RecT.mk p_r.Kind 0 0 0 0 0 0 0 0 0 p_r.On 0 0)) else (bif (p_r.Kind == 6) then (some (RecT.mk p_r.Kind p_r.Order 0 0 0 p_r.Qty p_r.Price 0 0 0 false p_r.Seq p_r.What)) else (some (RecT.mk p_r.Kind 0 0 0 0 0 0 0 0 0 false 0 0))))))))
noncomputable def sp75 : List DV → Option DV := specT (fun (a : RecT) => [.agg (e_RecT a)]) (fun (r : RecT) => .agg (e_RecT r)) (fun (a : RecT) => g_rec_fields a)
theorem inj75 : ∀ (a b : RecT), List.map z1 ((fun (a : RecT) => [.agg (e_RecT a)]) a) = List.map z1 ((fun (a : RecT) => [.agg (e_RecT a)]) b) → a = b := by
 intro a0 b0 h
 simp only [List.map_cons, List.map_nil, List.cons.injEq, and_true] at h
 exact (e_RecT_inj (DV.agg.inj h))
set_option maxHeartbeats 1000000 in
theorem w75 {C : FuncId → Con} (hC : ConOk Try.prog C) : ValOk Try.prog 75 sp75 := by
 refine valT_of hC c75 _ _ _ inj75 ?_
 intro p_r
 show Imq (g_rec_fields p_r) (fun _ => True) fun r => WP Try.prog C (fun _ => False) cd75 (retQ fun s => outV s rs75 = some (.agg (e_RecT r))) ⟨⟨73, [(0, (.val (.agg [(.int .i64 p_r.Kind), (.int .i64 p_r.Order), (.int .i64 p_r.Account), (.int .i64 p_r.Symbol), (.int .i64 p_r.Side), (.int .i64 p_r.Qty), (.int .i64 p_r.Price), (.int .i64 p_r.Long), (.int .i64 p_r.Short), (.int .i64 p_r.Open), (.bool p_r.On), (.int .i64 p_r.Seq), (.int .i64 p_r.What)])))]⟩, mkH []⟩
 unfold g_rec_fields
 refine G_seq ?_
 refine G_region ?_
 refine G_op [1001] (v := (.box [1001] 0)) (E_a (u := (.box [1001] 0)) (b := (.box (lRecT p_r))) (h' := [([1001], (.box (lRecT p_r)))]) (by kernel_rfl) (by kernel_rfl) (by kernel_rfl)) rfl rfl ?_
 refine G_op [1002] (v := (.box [1002] 0)) (E_a (u := (.box [1002] 0)) (b := (.box zRecT)) (h' := [([1001], (.box (lRecT p_r))), ([1002], (.box zRecT))]) (by kernel_rfl) (by kernel_rfl) (by kernel_rfl)) rfl rfl ?_
 refine G_nil ?_
 refine G_then ?_
 refine G_seq ?_
 refine G_region ?_
 refine G_op [0] (v := (.box [1001] 0)) (E_p (by kernel_rfl)) rfl rfl ?_
 refine G_op [0] (v := (ii p_r.Kind)) (E_load (by kernel_rfl)) rfl rfl ?_
 refine G_op [0] (v := (.agg [(ii p_r.Kind), (ii 0), (ii 0), (ii 0), (ii 0), (ii 0), (ii 0), (ii 0), (ii 0), (ii 0), (bb false), (ii 0), (ii 0)])) (E_p (by kernel_rfl)) rfl rfl ?_
 refine G_op [1003] (v := (.box [1003] 0)) (E_a (u := (.box [1003] 0)) (b := (.box zRecT)) (h' := [([1001], (.box (lRecT p_r))), ([1002], (.box zRecT)), ([1003], (.box zRecT))]) (by kernel_rfl) (by kernel_rfl) (by kernel_rfl)) rfl rfl ?_
 refine G_op0 [0] (v := (.val (.tup []))) (E_store (b := [1003]) (o := 0) (cs := [(ii p_r.Kind), (ii 0), (ii 0), (ii 0), (ii 0), (ii 0), (ii 0), (ii 0), (ii 0), (ii 0), (bb false), (ii 0), (ii 0)]) (cells := zRecT) (cells' := [(ii p_r.Kind), (ii 0), (ii 0), (ii 0), (ii 0), (ii 0), (ii 0), (ii 0), (ii 0), (ii 0), (bb false), (ii 0), (ii 0)]) (h' := [([1001], (.box (lRecT p_r))), ([1002], (.box zRecT)), ([1003], (.box [(ii p_r.Kind), (ii 0), (ii 0), (ii 0), (ii 0), (ii 0), (ii 0), (ii 0), (ii 0), (ii 0), (bb false), (ii 0), (ii 0)]))]) (by kernel_rfl) (by kernel_rfl) (by kernel_rfl) rfl (by kernel_rfl) (by kernel_rfl) (by kernel_rfl) (by kernel_rfl)) rfl ?_
 refine G_nil ?_
 refine G_then ?_
 refine G_seq ?_
 refine G_seq ?_
 refine G_region ?_
 refine G_op [0] (v := (.box [1001] 0)) (E_p (by kernel_rfl)) rfl rfl ?_
 refine G_op [0] (v := (ii p_r.Kind)) (E_load (by kernel_rfl)) rfl rfl ?_
 refine G_nil ?_
 refine G_then ?_
 refine G_block ?_
 refine G_seq ?_
 refine G_block ?_
 refine G_seq ?_
 refine G_block ?_
 refine G_seq ?_
 refine G_block ?_
 refine G_seq ?_
 refine G_block ?_
 refine G_seq ?_
 refine G_block ?_
 refine G_seq ?_
 refine G_block ?_
 refine G_seq ?_
 refine G_seq ?_
 refine G_seq ?_
 refine G_region ?_
 refine G_op [0] (v := (bb ((p_r.Kind == 1)))) (E_p (by kernel_rfl)) rfl rfl ?_
 refine G_op [0] (v := (bb ((p_r.Kind == 1)))) (E_p (by kernel_rfl)) rfl rfl ?_
 refine G_nil ?_
 refine G_then ?_
 refine G_cond (t := (p_r.Kind == 1)) (by kernel_rfl) (fun _ => ?_) (fun _ => ?_)
 ·refine G_exit ?_
  refine G_thenX ?_
  refine G_thenX ?_
  refine G_inBX ?_
  refine G_then ?_
  refine G_drawA (fun c => if c = 3 then [1003] else if c = 1 then [1001] else []) (by exact ⟨trivial, trivial, trivial, rfl, trivial, trivial, trivial, rfl, trivial⟩) (by decide) ?_
  refine X_op (w := (.box [1001] 2)) (v := (.box [1001] 2)) (E_p (by kernel_rfl)) rfl rfl rfl ?_
  refine X_op (w := (ii p_r.Account)) (v := (ii p_r.Account)) (E_load (by kernel_rfl)) rfl rfl rfl ?_
  refine X_op (w := (.box [1001] 3)) (v := (.box [1001] 3)) (E_p (by kernel_rfl)) rfl rfl rfl ?_
  refine X_op (w := (ii p_r.Symbol)) (v := (ii p_r.Symbol)) (E_load (by kernel_rfl)) rfl rfl rfl ?_
  refine X_op (w := (.box [1001] 4)) (v := (.box [1001] 4)) (E_p (by kernel_rfl)) rfl rfl rfl ?_
  refine X_op (w := (ii p_r.Side)) (v := (ii p_r.Side)) (E_load (by kernel_rfl)) rfl rfl rfl ?_
  refine X_op (w := (.box [1003] 2)) (v := (.box [1003] 2)) (E_p (by kernel_rfl)) rfl rfl rfl ?_
  refine X_op0 (v := (.val (.tup []))) (E_store (b := [1003]) (o := 2) (cs := [(ii p_r.Account)]) (cells := [(ii p_r.Kind), (ii 0), (ii 0), (ii 0), (ii 0), (ii 0), (ii 0), (ii 0), (ii 0), (ii 0), (bb false), (ii 0), (ii 0)]) (cells' := [(ii p_r.Kind), (ii 0), (ii p_r.Account), (ii 0), (ii 0), (ii 0), (ii 0), (ii 0), (ii 0), (ii 0), (bb false), (ii 0), (ii 0)]) (h' := [([1001], (.box (lRecT p_r))), ([1002], (.box zRecT)), ([1003], (.box [(ii p_r.Kind), (ii 0), (ii p_r.Account), (ii 0), (ii 0), (ii 0), (ii 0), (ii 0), (ii 0), (ii 0), (bb false), (ii 0), (ii 0)]))]) (by kernel_rfl) (by kernel_rfl) (by kernel_rfl) rfl (by kernel_rfl) (by kernel_rfl) (by kernel_rfl) (by kernel_rfl)) rfl ?_
  refine X_op (w := (.box [1003] 3)) (v := (.box [1003] 3)) (E_p (by kernel_rfl)) rfl rfl rfl ?_
  refine X_op0 (v := (.val (.tup []))) (E_store (b := [1003]) (o := 3) (cs := [(ii p_r.Symbol)]) (cells := [(ii p_r.Kind), (ii 0), (ii p_r.Account), (ii 0), (ii 0), (ii 0), (ii 0), (ii 0), (ii 0), (ii 0), (bb false), (ii 0), (ii 0)]) (cells' := [(ii p_r.Kind), (ii 0), (ii p_r.Account), (ii p_r.Symbol), (ii 0), (ii 0), (ii 0), (ii 0), (ii 0), (ii 0), (bb false), (ii 0), (ii 0)]) (h' := [([1001], (.box (lRecT p_r))), ([1002], (.box zRecT)), ([1003], (.box [(ii p_r.Kind), (ii 0), (ii p_r.Account), (ii p_r.Symbol), (ii 0), (ii 0), (ii 0), (ii 0), (ii 0), (ii 0), (bb false), (ii 0), (ii 0)]))]) (by kernel_rfl) (by kernel_rfl) (by kernel_rfl) rfl (by kernel_rfl) (by kernel_rfl) (by kernel_rfl) (by kernel_rfl)) rfl ?_
  refine X_op (w := (.box [1003] 4)) (v := (.box [1003] 4)) (E_p (by kernel_rfl)) rfl rfl rfl ?_
  refine X_op0 (v := (.val (.tup []))) (E_store (b := [1003]) (o := 4) (cs := [(ii p_r.Side)]) (cells := [(ii p_r.Kind), (ii 0), (ii p_r.Account), (ii p_r.Symbol), (ii 0), (ii 0), (ii 0), (ii 0), (ii 0), (ii 0), (bb false), (ii 0), (ii 0)]) (cells' := [(ii p_r.Kind), (ii 0), (ii p_r.Account), (ii p_r.Symbol), (ii p_r.Side), (ii 0), (ii 0), (ii 0), (ii 0), (ii 0), (bb false), (ii 0), (ii 0)]) (h' := [([1001], (.box (lRecT p_r))), ([1002], (.box zRecT)), ([1003], (.box [(ii p_r.Kind), (ii 0), (ii p_r.Account), (ii p_r.Symbol), (ii p_r.Side), (ii 0), (ii 0), (ii 0), (ii 0), (ii 0), (bb false), (ii 0), (ii 0)]))]) (by kernel_rfl) (by kernel_rfl) (by kernel_rfl) rfl (by kernel_rfl) (by kernel_rfl) (by kernel_rfl) (by kernel_rfl)) rfl ?_
  refine X_nil (m := [(3, (.box [1003] 0)), (2, (.box [1002] 0)), (1, (.box [1001] 0))]) (by exact ⟨rfl, rfl, rfl, trivial⟩) ?_
  refine G_inB ?_
  refine G_then ?_
  refine G_drawA (fun c => if c = 3 then [1003] else if c = 1 then [1001] else []) (by exact ⟨trivial, trivial, rfl, trivial, trivial, rfl, trivial⟩) (by decide) ?_
  refine X_op (w := (.box [1001] 5)) (v := (.box [1001] 5)) (E_p (by kernel_rfl)) rfl rfl rfl ?_
  refine X_op (w := (ii p_r.Qty)) (v := (ii p_r.Qty)) (E_load (by kernel_rfl)) rfl rfl rfl ?_
  refine X_op (w := (.box [1001] 6)) (v := (.box [1001] 6)) (E_p (by kernel_rfl)) rfl rfl rfl ?_
  refine X_op (w := (ii p_r.Price)) (v := (ii p_r.Price)) (E_load (by kernel_rfl)) rfl rfl rfl ?_
  refine X_op (w := (.box [1003] 5)) (v := (.box [1003] 5)) (E_p (by kernel_rfl)) rfl rfl rfl ?_
  refine X_op0 (v := (.val (.tup []))) (E_store (b := [1003]) (o := 5) (cs := [(ii p_r.Qty)]) (cells := [(ii p_r.Kind), (ii 0), (ii p_r.Account), (ii p_r.Symbol), (ii p_r.Side), (ii 0), (ii 0), (ii 0), (ii 0), (ii 0), (bb false), (ii 0), (ii 0)]) (cells' := [(ii p_r.Kind), (ii 0), (ii p_r.Account), (ii p_r.Symbol), (ii p_r.Side), (ii p_r.Qty), (ii 0), (ii 0), (ii 0), (ii 0), (bb false), (ii 0), (ii 0)]) (h' := [([1001], (.box (lRecT p_r))), ([1002], (.box zRecT)), ([1003], (.box [(ii p_r.Kind), (ii 0), (ii p_r.Account), (ii p_r.Symbol), (ii p_r.Side), (ii p_r.Qty), (ii 0), (ii 0), (ii 0), (ii 0), (bb false), (ii 0), (ii 0)]))]) (by kernel_rfl) (by kernel_rfl) (by kernel_rfl) rfl (by kernel_rfl) (by kernel_rfl) (by kernel_rfl) (by kernel_rfl)) rfl ?_
  refine X_op (w := (.box [1003] 6)) (v := (.box [1003] 6)) (E_p (by kernel_rfl)) rfl rfl rfl ?_
  refine X_op0 (v := (.val (.tup []))) (E_store (b := [1003]) (o := 6) (cs := [(ii p_r.Price)]) (cells := [(ii p_r.Kind), (ii 0), (ii p_r.Account), (ii p_r.Symbol), (ii p_r.Side), (ii p_r.Qty), (ii 0), (ii 0), (ii 0), (ii 0), (bb false), (ii 0), (ii 0)]) (cells' := [(ii p_r.Kind), (ii 0), (ii p_r.Account), (ii p_r.Symbol), (ii p_r.Side), (ii p_r.Qty), (ii p_r.Price), (ii 0), (ii 0), (ii 0), (bb false), (ii 0), (ii 0)]) (h' := [([1001], (.box (lRecT p_r))), ([1002], (.box zRecT)), ([1003], (.box [(ii p_r.Kind), (ii 0), (ii p_r.Account), (ii p_r.Symbol), (ii p_r.Side), (ii p_r.Qty), (ii p_r.Price), (ii 0), (ii 0), (ii 0), (bb false), (ii 0), (ii 0)]))]) (by kernel_rfl) (by kernel_rfl) (by kernel_rfl) rfl (by kernel_rfl) (by kernel_rfl) (by kernel_rfl) (by kernel_rfl)) rfl ?_
  refine X_nil (m := [(3, (.box [1003] 0)), (2, (.box [1002] 0)), (1, (.box [1001] 0))]) (by exact ⟨rfl, rfl, rfl, trivial⟩) ?_
  refine G_inB ?_
  refine G_then ?_
  refine G_seq ?_
  refine G_region ?_
  refine G_op [0] (v := (.box [1001] 1)) (E_p (by kernel_rfl)) rfl rfl ?_
  refine G_op [0] (v := (ii p_r.Order)) (E_load (by kernel_rfl)) rfl rfl ?_
  refine G_op [0] (v := (.box [1003] 1)) (E_p (by kernel_rfl)) rfl rfl ?_
  refine G_op0 [0] (v := (.val (.tup []))) (E_store (b := [1003]) (o := 1) (cs := [(ii p_r.Order)]) (cells := [(ii p_r.Kind), (ii 0), (ii p_r.Account), (ii p_r.Symbol), (ii p_r.Side), (ii p_r.Qty), (ii p_r.Price), (ii 0), (ii 0), (ii 0), (bb false), (ii 0), (ii 0)]) (cells' := [(ii p_r.Kind), (ii p_r.Order), (ii p_r.Account), (ii p_r.Symbol), (ii p_r.Side), (ii p_r.Qty), (ii p_r.Price), (ii 0), (ii 0), (ii 0), (bb false), (ii 0), (ii 0)]) (h' := [([1001], (.box (lRecT p_r))), ([1002], (.box zRecT)), ([1003], (.box [(ii p_r.Kind), (ii p_r.Order), (ii p_r.Account), (ii p_r.Symbol), (ii p_r.Side), (ii p_r.Qty), (ii p_r.Price), (ii 0), (ii 0), (ii 0), (bb false), (ii 0), (ii 0)]))]) (by kernel_rfl) (by kernel_rfl) (by kernel_rfl) rfl (by kernel_rfl) (by kernel_rfl) (by kernel_rfl) (by kernel_rfl)) rfl ?_
  refine G_nil ?_
  refine G_then ?_
  refine G_exit ?_
  refine G_inBO rfl ?_
  refine G_thenX ?_
  refine G_inBO rfl ?_
  refine G_thenX ?_
  refine G_inBO rfl ?_
  refine G_thenX ?_
  refine G_inBX ?_
  refine G_then ?_
  refine G_seq ?_
  refine G_region ?_
  refine G_op [0] (v := (.agg [(ii p_r.Kind), (ii p_r.Order), (ii p_r.Account), (ii p_r.Symbol), (ii p_r.Side), (ii p_r.Qty), (ii p_r.Price), (ii 0), (ii 0), (ii 0), (bb false), (ii 0), (ii 0)])) (E_load (by kernel_rfl)) rfl rfl ?_
  refine G_op0 [0] (v := (.val (.tup []))) (E_store (b := [1002]) (o := 0) (cs := [(ii p_r.Kind), (ii p_r.Order), (ii p_r.Account), (ii p_r.Symbol), (ii p_r.Side), (ii p_r.Qty), (ii p_r.Price), (ii 0), (ii 0), (ii 0), (bb false), (ii 0), (ii 0)]) (cells := zRecT) (cells' := [(ii p_r.Kind), (ii p_r.Order), (ii p_r.Account), (ii p_r.Symbol), (ii p_r.Side), (ii p_r.Qty), (ii p_r.Price), (ii 0), (ii 0), (ii 0), (bb false), (ii 0), (ii 0)]) (h' := [([1001], (.box (lRecT p_r))), ([1002], (.box [(ii p_r.Kind), (ii p_r.Order), (ii p_r.Account), (ii p_r.Symbol), (ii p_r.Side), (ii p_r.Qty), (ii p_r.Price), (ii 0), (ii 0), (ii 0), (bb false), (ii 0), (ii 0)])), ([1003], (.box [(ii p_r.Kind), (ii p_r.Order), (ii p_r.Account), (ii p_r.Symbol), (ii p_r.Side), (ii p_r.Qty), (ii p_r.Price), (ii 0), (ii 0), (ii 0), (bb false), (ii 0), (ii 0)]))]) (by kernel_rfl) (by kernel_rfl) (by kernel_rfl) rfl (by kernel_rfl) (by kernel_rfl) (by kernel_rfl) (by kernel_rfl)) rfl ?_
  refine G_nil ?_
  refine G_then ?_
  refine G_ret ?_
  refine G_retR ?_
  refine q_some fun hA => ?_
  show outV _ _ = some _
  kernel_rfl
 ·refine G_skip ?_
  refine G_then ?_
  refine G_seq ?_
  refine G_seq ?_
  refine G_region ?_
  refine G_op [0] (v := (bb ((p_r.Kind == 2)))) (E_p (by kernel_rfl)) rfl rfl ?_
  refine G_op [0] (v := (bb ((p_r.Kind == 2)))) (E_p (by kernel_rfl)) rfl rfl ?_
  refine G_nil ?_
  refine G_then ?_
  refine G_cond (t := (p_r.Kind == 2)) (by kernel_rfl) (fun _ => ?_) (fun _ => ?_)
  ·refine G_exit ?_
   refine G_thenX ?_
   refine G_thenX ?_
   refine G_inBO rfl ?_
   refine G_thenX ?_
   refine G_inBX ?_
   refine G_then ?_
   refine G_subW (s0 := ⟨⟨73, [(3, (.box [1003] 0)), (2, (.box [1002] 0)), (1, (.box [1001] 0))]⟩, mkH [([1001], (.box (lRecT p_r))), ([1002], (.box zRecT)), ([1003], (.box [(ii p_r.Kind), (ii 0), (ii 0), (ii 0), (ii 0), (ii 0), (ii 0), (ii 0), (ii 0), (ii 0), (bb false), (ii 0), (ii 0)]))]⟩) (by exact Sub_env ⟨.refl _, .refl _, .refl _, trivial⟩) ?_
   refine G_drawA (fun c => if c = 3 then [1003] else if c = 1 then [1001] else []) (by exact ⟨trivial, trivial, rfl, trivial, trivial, rfl, trivial⟩) (by decide) ?_
   refine X_op (w := (.box [1001] 5)) (v := (.box [1001] 5)) (E_p (by kernel_rfl)) rfl rfl rfl ?_
   refine X_op (w := (ii p_r.Qty)) (v := (ii p_r.Qty)) (E_load (by kernel_rfl)) rfl rfl rfl ?_
   refine X_op (w := (.box [1001] 6)) (v := (.box [1001] 6)) (E_p (by kernel_rfl)) rfl rfl rfl ?_
   refine X_op (w := (ii p_r.Price)) (v := (ii p_r.Price)) (E_load (by kernel_rfl)) rfl rfl rfl ?_
   refine X_op (w := (.box [1003] 5)) (v := (.box [1003] 5)) (E_p (by kernel_rfl)) rfl rfl rfl ?_
   refine X_op0 (v := (.val (.tup []))) (E_store (b := [1003]) (o := 5) (cs := [(ii p_r.Qty)]) (cells := [(ii p_r.Kind), (ii 0), (ii 0), (ii 0), (ii 0), (ii 0), (ii 0), (ii 0), (ii 0), (ii 0), (bb false), (ii 0), (ii 0)]) (cells' := [(ii p_r.Kind), (ii 0), (ii 0), (ii 0), (ii 0), (ii p_r.Qty), (ii 0), (ii 0), (ii 0), (ii 0), (bb false), (ii 0), (ii 0)]) (h' := [([1001], (.box (lRecT p_r))), ([1002], (.box zRecT)), ([1003], (.box [(ii p_r.Kind), (ii 0), (ii 0), (ii 0), (ii 0), (ii p_r.Qty), (ii 0), (ii 0), (ii 0), (ii 0), (bb false), (ii 0), (ii 0)]))]) (by kernel_rfl) (by kernel_rfl) (by kernel_rfl) rfl (by kernel_rfl) (by kernel_rfl) (by kernel_rfl) (by kernel_rfl)) rfl ?_
   refine X_op (w := (.box [1003] 6)) (v := (.box [1003] 6)) (E_p (by kernel_rfl)) rfl rfl rfl ?_
   refine X_op0 (v := (.val (.tup []))) (E_store (b := [1003]) (o := 6) (cs := [(ii p_r.Price)]) (cells := [(ii p_r.Kind), (ii 0), (ii 0), (ii 0), (ii 0), (ii p_r.Qty), (ii 0), (ii 0), (ii 0), (ii 0), (bb false), (ii 0), (ii 0)]) (cells' := [(ii p_r.Kind), (ii 0), (ii 0), (ii 0), (ii 0), (ii p_r.Qty), (ii p_r.Price), (ii 0), (ii 0), (ii 0), (bb false), (ii 0), (ii 0)]) (h' := [([1001], (.box (lRecT p_r))), ([1002], (.box zRecT)), ([1003], (.box [(ii p_r.Kind), (ii 0), (ii 0), (ii 0), (ii 0), (ii p_r.Qty), (ii p_r.Price), (ii 0), (ii 0), (ii 0), (bb false), (ii 0), (ii 0)]))]) (by kernel_rfl) (by kernel_rfl) (by kernel_rfl) rfl (by kernel_rfl) (by kernel_rfl) (by kernel_rfl) (by kernel_rfl)) rfl ?_
   refine X_nil (m := [(3, (.box [1003] 0)), (2, (.box [1002] 0)), (1, (.box [1001] 0))]) (by exact ⟨rfl, rfl, rfl, trivial⟩) ?_
   refine G_inB ?_
   refine G_then ?_
   refine G_seq ?_
   refine G_region ?_
   refine G_op [0] (v := (.box [1001] 1)) (E_p (by kernel_rfl)) rfl rfl ?_
   refine G_op [0] (v := (ii p_r.Order)) (E_load (by kernel_rfl)) rfl rfl ?_
   refine G_op [0] (v := (.box [1003] 1)) (E_p (by kernel_rfl)) rfl rfl ?_
   refine G_op0 [0] (v := (.val (.tup []))) (E_store (b := [1003]) (o := 1) (cs := [(ii p_r.Order)]) (cells := [(ii p_r.Kind), (ii 0), (ii 0), (ii 0), (ii 0), (ii p_r.Qty), (ii p_r.Price), (ii 0), (ii 0), (ii 0), (bb false), (ii 0), (ii 0)]) (cells' := [(ii p_r.Kind), (ii p_r.Order), (ii 0), (ii 0), (ii 0), (ii p_r.Qty), (ii p_r.Price), (ii 0), (ii 0), (ii 0), (bb false), (ii 0), (ii 0)]) (h' := [([1001], (.box (lRecT p_r))), ([1002], (.box zRecT)), ([1003], (.box [(ii p_r.Kind), (ii p_r.Order), (ii 0), (ii 0), (ii 0), (ii p_r.Qty), (ii p_r.Price), (ii 0), (ii 0), (ii 0), (bb false), (ii 0), (ii 0)]))]) (by kernel_rfl) (by kernel_rfl) (by kernel_rfl) rfl (by kernel_rfl) (by kernel_rfl) (by kernel_rfl) (by kernel_rfl)) rfl ?_
   refine G_nil ?_
   refine G_then ?_
   refine G_exit ?_
   refine G_inBO rfl ?_
   refine G_thenX ?_
   refine G_inBO rfl ?_
   refine G_thenX ?_
   refine G_inBO rfl ?_
   refine G_thenX ?_
   refine G_inBX ?_
   refine G_then ?_
   refine G_seq ?_
   refine G_region ?_
   refine G_op [0] (v := (.agg [(ii p_r.Kind), (ii p_r.Order), (ii 0), (ii 0), (ii 0), (ii p_r.Qty), (ii p_r.Price), (ii 0), (ii 0), (ii 0), (bb false), (ii 0), (ii 0)])) (E_load (by kernel_rfl)) rfl rfl ?_
   refine G_op0 [0] (v := (.val (.tup []))) (E_store (b := [1002]) (o := 0) (cs := [(ii p_r.Kind), (ii p_r.Order), (ii 0), (ii 0), (ii 0), (ii p_r.Qty), (ii p_r.Price), (ii 0), (ii 0), (ii 0), (bb false), (ii 0), (ii 0)]) (cells := zRecT) (cells' := [(ii p_r.Kind), (ii p_r.Order), (ii 0), (ii 0), (ii 0), (ii p_r.Qty), (ii p_r.Price), (ii 0), (ii 0), (ii 0), (bb false), (ii 0), (ii 0)]) (h' := [([1001], (.box (lRecT p_r))), ([1002], (.box [(ii p_r.Kind), (ii p_r.Order), (ii 0), (ii 0), (ii 0), (ii p_r.Qty), (ii p_r.Price), (ii 0), (ii 0), (ii 0), (bb false), (ii 0), (ii 0)])), ([1003], (.box [(ii p_r.Kind), (ii p_r.Order), (ii 0), (ii 0), (ii 0), (ii p_r.Qty), (ii p_r.Price), (ii 0), (ii 0), (ii 0), (bb false), (ii 0), (ii 0)]))]) (by kernel_rfl) (by kernel_rfl) (by kernel_rfl) rfl (by kernel_rfl) (by kernel_rfl) (by kernel_rfl) (by kernel_rfl)) rfl ?_
   refine G_nil ?_
   refine G_then ?_
   refine G_ret ?_
   refine G_retR ?_
   refine q_some fun hA => ?_
   show outV _ _ = some _
   kernel_rfl
  ·refine G_skip ?_
   refine G_then ?_
   refine G_subW (s0 := ⟨⟨73, [(8, (ii p_r.Kind)), (3, (.box [1003] 0)), (2, (.box [1002] 0)), (1, (.box [1001] 0))]⟩, mkH [([1001], (.box (lRecT p_r))), ([1002], (.box zRecT)), ([1003], (.box [(ii p_r.Kind), (ii 0), (ii 0), (ii 0), (ii 0), (ii 0), (ii 0), (ii 0), (ii 0), (ii 0), (bb false), (ii 0), (ii 0)]))]⟩) (by exact Sub_env ⟨.refl _, .refl _, .refl _, .refl _, trivial⟩) ?_
   refine G_seq ?_
   refine G_seq ?_
   refine G_region ?_
   refine G_op [0] (v := (bb ((p_r.Kind == 3)))) (E_p (by kernel_rfl)) rfl rfl ?_
   refine G_op [0] (v := (bb ((p_r.Kind == 3)))) (E_p (by kernel_rfl)) rfl rfl ?_
   refine G_nil ?_
   refine G_then ?_
   refine G_cond (t := (p_r.Kind == 3)) (by kernel_rfl) (fun _ => ?_) (fun _ => ?_)
   ·refine G_exit ?_
    refine G_thenX ?_
    refine G_thenX ?_
    refine G_inBO rfl ?_
    refine G_thenX ?_
    refine G_inBO rfl ?_
    refine G_thenX ?_
    refine G_inBX ?_
    refine G_then ?_
    refine G_seq ?_
    refine G_region ?_
    refine G_op [0] (v := (.box [1001] 1)) (E_p (by kernel_rfl)) rfl rfl ?_
    refine G_op [0] (v := (ii p_r.Order)) (E_load (by kernel_rfl)) rfl rfl ?_
    refine G_op [0] (v := (.box [1003] 1)) (E_p (by kernel_rfl)) rfl rfl ?_
    refine G_op0 [0] (v := (.val (.tup []))) (E_store (b := [1003]) (o := 1) (cs := [(ii p_r.Order)]) (cells := [(ii p_r.Kind), (ii 0), (ii 0), (ii 0), (ii 0), (ii 0), (ii 0), (ii 0), (ii 0), (ii 0), (bb false), (ii 0), (ii 0)]) (cells' := [(ii p_r.Kind), (ii p_r.Order), (ii 0), (ii 0), (ii 0), (ii 0), (ii 0), (ii 0), (ii 0), (ii 0), (bb false), (ii 0), (ii 0)]) (h' := [([1001], (.box (lRecT p_r))), ([1002], (.box zRecT)), ([1003], (.box [(ii p_r.Kind), (ii p_r.Order), (ii 0), (ii 0), (ii 0), (ii 0), (ii 0), (ii 0), (ii 0), (ii 0), (bb false), (ii 0), (ii 0)]))]) (by kernel_rfl) (by kernel_rfl) (by kernel_rfl) rfl (by kernel_rfl) (by kernel_rfl) (by kernel_rfl) (by kernel_rfl)) rfl ?_
    refine G_nil ?_
    refine G_then ?_
    refine G_exit ?_
    refine G_inBO rfl ?_
    refine G_thenX ?_
    refine G_inBO rfl ?_
    refine G_thenX ?_
    refine G_inBO rfl ?_
    refine G_thenX ?_
    refine G_inBX ?_
    refine G_then ?_
    refine G_seq ?_
    refine G_region ?_
    refine G_op [0] (v := (.agg [(ii p_r.Kind), (ii p_r.Order), (ii 0), (ii 0), (ii 0), (ii 0), (ii 0), (ii 0), (ii 0), (ii 0), (bb false), (ii 0), (ii 0)])) (E_load (by kernel_rfl)) rfl rfl ?_
    refine G_op0 [0] (v := (.val (.tup []))) (E_store (b := [1002]) (o := 0) (cs := [(ii p_r.Kind), (ii p_r.Order), (ii 0), (ii 0), (ii 0), (ii 0), (ii 0), (ii 0), (ii 0), (ii 0), (bb false), (ii 0), (ii 0)]) (cells := zRecT) (cells' := [(ii p_r.Kind), (ii p_r.Order), (ii 0), (ii 0), (ii 0), (ii 0), (ii 0), (ii 0), (ii 0), (ii 0), (bb false), (ii 0), (ii 0)]) (h' := [([1001], (.box (lRecT p_r))), ([1002], (.box [(ii p_r.Kind), (ii p_r.Order), (ii 0), (ii 0), (ii 0), (ii 0), (ii 0), (ii 0), (ii 0), (ii 0), (bb false), (ii 0), (ii 0)])), ([1003], (.box [(ii p_r.Kind), (ii p_r.Order), (ii 0), (ii 0), (ii 0), (ii 0), (ii 0), (ii 0), (ii 0), (ii 0), (bb false), (ii 0), (ii 0)]))]) (by kernel_rfl) (by kernel_rfl) (by kernel_rfl) rfl (by kernel_rfl) (by kernel_rfl) (by kernel_rfl) (by kernel_rfl)) rfl ?_
    refine G_nil ?_
    refine G_then ?_
    refine G_subW (s0 := ⟨⟨73, [(2, (.box [1002] 0))]⟩, mkH [([1002], (.box [(ii p_r.Kind), (ii p_r.Order), (ii 0), (ii 0), (ii 0), (ii 0), (ii 0), (ii 0), (ii 0), (ii 0), (bb false), (ii 0), (ii 0)]))]⟩) (by exact Sub_keep ⟨.refl _, trivial⟩ ⟨⟨_, (by kernel_rfl), .refl _⟩, trivial⟩ (by kernel_rfl) (by kernel_rfl)) ?_
    refine G_ret ?_
    refine G_retR ?_
    refine q_some fun hA => ?_
    show outV _ _ = some _
    kernel_rfl
   ·refine G_skip ?_
    refine G_then ?_
    refine G_seq ?_
    refine G_seq ?_
    refine G_region ?_
    refine G_op [0] (v := (bb ((p_r.Kind == 4)))) (E_p (by kernel_rfl)) rfl rfl ?_
    refine G_op [0] (v := (bb ((p_r.Kind == 4)))) (E_p (by kernel_rfl)) rfl rfl ?_
    refine G_nil ?_
    refine G_then ?_
    refine G_cond (t := (p_r.Kind == 4)) (by kernel_rfl) (fun _ => ?_) (fun _ => ?_)
    ·refine G_exit ?_
     refine G_thenX ?_
     refine G_thenX ?_
     refine G_inBO rfl ?_
     refine G_thenX ?_
     refine G_inBO rfl ?_
     refine G_thenX ?_
     refine G_inBO rfl ?_
     refine G_thenX ?_
     refine G_inBX ?_
     refine G_then ?_
     refine G_seq ?_
     refine G_drawA (fun c => if c = 3 then [1003] else if c = 1 then [1001] else []) (by exact ⟨trivial, trivial, trivial, trivial, trivial, rfl, trivial, trivial, trivial, trivial, trivial, rfl, trivial⟩) (by decide) ?_
     refine X_op (w := (.box [1001] 2)) (v := (.box [1001] 2)) (E_p (by kernel_rfl)) rfl rfl rfl ?_
     refine X_op (w := (ii p_r.Account)) (v := (ii p_r.Account)) (E_load (by kernel_rfl)) rfl rfl rfl ?_
     refine X_op (w := (.box [1001] 3)) (v := (.box [1001] 3)) (E_p (by kernel_rfl)) rfl rfl rfl ?_
     refine X_op (w := (ii p_r.Symbol)) (v := (ii p_r.Symbol)) (E_load (by kernel_rfl)) rfl rfl rfl ?_
     refine X_op (w := (.box [1001] 7)) (v := (.box [1001] 7)) (E_p (by kernel_rfl)) rfl rfl rfl ?_
     refine X_op (w := (ii p_r.Long)) (v := (ii p_r.Long)) (E_load (by kernel_rfl)) rfl rfl rfl ?_
     refine X_op (w := (.box [1001] 8)) (v := (.box [1001] 8)) (E_p (by kernel_rfl)) rfl rfl rfl ?_
     refine X_op (w := (ii p_r.Short)) (v := (ii p_r.Short)) (E_load (by kernel_rfl)) rfl rfl rfl ?_
     refine X_op (w := (.box [1001] 9)) (v := (.box [1001] 9)) (E_p (by kernel_rfl)) rfl rfl rfl ?_
     refine X_op (w := (ii p_r.Open)) (v := (ii p_r.Open)) (E_load (by kernel_rfl)) rfl rfl rfl ?_
     refine X_op (w := (.box [1003] 2)) (v := (.box [1003] 2)) (E_p (by kernel_rfl)) rfl rfl rfl ?_
     refine X_op0 (v := (.val (.tup []))) (E_store (b := [1003]) (o := 2) (cs := [(ii p_r.Account)]) (cells := [(ii p_r.Kind), (ii 0), (ii 0), (ii 0), (ii 0), (ii 0), (ii 0), (ii 0), (ii 0), (ii 0), (bb false), (ii 0), (ii 0)]) (cells' := [(ii p_r.Kind), (ii 0), (ii p_r.Account), (ii 0), (ii 0), (ii 0), (ii 0), (ii 0), (ii 0), (ii 0), (bb false), (ii 0), (ii 0)]) (h' := [([1001], (.box (lRecT p_r))), ([1002], (.box zRecT)), ([1003], (.box [(ii p_r.Kind), (ii 0), (ii p_r.Account), (ii 0), (ii 0), (ii 0), (ii 0), (ii 0), (ii 0), (ii 0), (bb false), (ii 0), (ii 0)]))]) (by kernel_rfl) (by kernel_rfl) (by kernel_rfl) rfl (by kernel_rfl) (by kernel_rfl) (by kernel_rfl) (by kernel_rfl)) rfl ?_
     refine X_op (w := (.box [1003] 3)) (v := (.box [1003] 3)) (E_p (by kernel_rfl)) rfl rfl rfl ?_
     refine X_op0 (v := (.val (.tup []))) (E_store (b := [1003]) (o := 3) (cs := [(ii p_r.Symbol)]) (cells := [(ii p_r.Kind), (ii 0), (ii p_r.Account), (ii 0), (ii 0), (ii 0), (ii 0), (ii 0), (ii 0), (ii 0), (bb false), (ii 0), (ii 0)]) (cells' := [(ii p_r.Kind), (ii 0), (ii p_r.Account), (ii p_r.Symbol), (ii 0), (ii 0), (ii 0), (ii 0), (ii 0), (ii 0), (bb false), (ii 0), (ii 0)]) (h' := [([1001], (.box (lRecT p_r))), ([1002], (.box zRecT)), ([1003], (.box [(ii p_r.Kind), (ii 0), (ii p_r.Account), (ii p_r.Symbol), (ii 0), (ii 0), (ii 0), (ii 0), (ii 0), (ii 0), (bb false), (ii 0), (ii 0)]))]) (by kernel_rfl) (by kernel_rfl) (by kernel_rfl) rfl (by kernel_rfl) (by kernel_rfl) (by kernel_rfl) (by kernel_rfl)) rfl ?_
     refine X_op (w := (.box [1003] 7)) (v := (.box [1003] 7)) (E_p (by kernel_rfl)) rfl rfl rfl ?_
     refine X_op0 (v := (.val (.tup []))) (E_store (b := [1003]) (o := 7) (cs := [(ii p_r.Long)]) (cells := [(ii p_r.Kind), (ii 0), (ii p_r.Account), (ii p_r.Symbol), (ii 0), (ii 0), (ii 0), (ii 0), (ii 0), (ii 0), (bb false), (ii 0), (ii 0)]) (cells' := [(ii p_r.Kind), (ii 0), (ii p_r.Account), (ii p_r.Symbol), (ii 0), (ii 0), (ii 0), (ii p_r.Long), (ii 0), (ii 0), (bb false), (ii 0), (ii 0)]) (h' := [([1001], (.box (lRecT p_r))), ([1002], (.box zRecT)), ([1003], (.box [(ii p_r.Kind), (ii 0), (ii p_r.Account), (ii p_r.Symbol), (ii 0), (ii 0), (ii 0), (ii p_r.Long), (ii 0), (ii 0), (bb false), (ii 0), (ii 0)]))]) (by kernel_rfl) (by kernel_rfl) (by kernel_rfl) rfl (by kernel_rfl) (by kernel_rfl) (by kernel_rfl) (by kernel_rfl)) rfl ?_
     refine X_op (w := (.box [1003] 8)) (v := (.box [1003] 8)) (E_p (by kernel_rfl)) rfl rfl rfl ?_
     refine X_op0 (v := (.val (.tup []))) (E_store (b := [1003]) (o := 8) (cs := [(ii p_r.Short)]) (cells := [(ii p_r.Kind), (ii 0), (ii p_r.Account), (ii p_r.Symbol), (ii 0), (ii 0), (ii 0), (ii p_r.Long), (ii 0), (ii 0), (bb false), (ii 0), (ii 0)]) (cells' := [(ii p_r.Kind), (ii 0), (ii p_r.Account), (ii p_r.Symbol), (ii 0), (ii 0), (ii 0), (ii p_r.Long), (ii p_r.Short), (ii 0), (bb false), (ii 0), (ii 0)]) (h' := [([1001], (.box (lRecT p_r))), ([1002], (.box zRecT)), ([1003], (.box [(ii p_r.Kind), (ii 0), (ii p_r.Account), (ii p_r.Symbol), (ii 0), (ii 0), (ii 0), (ii p_r.Long), (ii p_r.Short), (ii 0), (bb false), (ii 0), (ii 0)]))]) (by kernel_rfl) (by kernel_rfl) (by kernel_rfl) rfl (by kernel_rfl) (by kernel_rfl) (by kernel_rfl) (by kernel_rfl)) rfl ?_
     refine X_op (w := (.box [1003] 9)) (v := (.box [1003] 9)) (E_p (by kernel_rfl)) rfl rfl rfl ?_
     refine X_op0 (v := (.val (.tup []))) (E_store (b := [1003]) (o := 9) (cs := [(ii p_r.Open)]) (cells := [(ii p_r.Kind), (ii 0), (ii p_r.Account), (ii p_r.Symbol), (ii 0), (ii 0), (ii 0), (ii p_r.Long), (ii p_r.Short), (ii 0), (bb false), (ii 0), (ii 0)]) (cells' := [(ii p_r.Kind), (ii 0), (ii p_r.Account), (ii p_r.Symbol), (ii 0), (ii 0), (ii 0), (ii p_r.Long), (ii p_r.Short), (ii p_r.Open), (bb false), (ii 0), (ii 0)]) (h' := [([1001], (.box (lRecT p_r))), ([1002], (.box zRecT)), ([1003], (.box [(ii p_r.Kind), (ii 0), (ii p_r.Account), (ii p_r.Symbol), (ii 0), (ii 0), (ii 0), (ii p_r.Long), (ii p_r.Short), (ii p_r.Open), (bb false), (ii 0), (ii 0)]))]) (by kernel_rfl) (by kernel_rfl) (by kernel_rfl) rfl (by kernel_rfl) (by kernel_rfl) (by kernel_rfl) (by kernel_rfl)) rfl ?_
     refine X_nil (m := [(3, (.box [1003] 0)), (2, (.box [1002] 0)), (1, (.box [1001] 0))]) (by exact ⟨rfl, rfl, rfl, trivial⟩) ?_
     refine G_then ?_
     refine G_exit ?_
     refine G_inBO rfl ?_
     refine G_thenX ?_
     refine G_inBO rfl ?_
     refine G_thenX ?_
     refine G_inBX ?_
     refine G_then ?_
     refine G_seq ?_
     refine G_region ?_
     refine G_op [0] (v := (.agg [(ii p_r.Kind), (ii 0), (ii p_r.Account), (ii p_r.Symbol), (ii 0), (ii 0), (ii 0), (ii p_r.Long), (ii p_r.Short), (ii p_r.Open), (bb false), (ii 0), (ii 0)])) (E_load (by kernel_rfl)) rfl rfl ?_
     refine G_op0 [0] (v := (.val (.tup []))) (E_store (b := [1002]) (o := 0) (cs := [(ii p_r.Kind), (ii 0), (ii p_r.Account), (ii p_r.Symbol), (ii 0), (ii 0), (ii 0), (ii p_r.Long), (ii p_r.Short), (ii p_r.Open), (bb false), (ii 0), (ii 0)]) (cells := zRecT) (cells' := [(ii p_r.Kind), (ii 0), (ii p_r.Account), (ii p_r.Symbol), (ii 0), (ii 0), (ii 0), (ii p_r.Long), (ii p_r.Short), (ii p_r.Open), (bb false), (ii 0), (ii 0)]) (h' := [([1001], (.box (lRecT p_r))), ([1002], (.box [(ii p_r.Kind), (ii 0), (ii p_r.Account), (ii p_r.Symbol), (ii 0), (ii 0), (ii 0), (ii p_r.Long), (ii p_r.Short), (ii p_r.Open), (bb false), (ii 0), (ii 0)])), ([1003], (.box [(ii p_r.Kind), (ii 0), (ii p_r.Account), (ii p_r.Symbol), (ii 0), (ii 0), (ii 0), (ii p_r.Long), (ii p_r.Short), (ii p_r.Open), (bb false), (ii 0), (ii 0)]))]) (by kernel_rfl) (by kernel_rfl) (by kernel_rfl) rfl (by kernel_rfl) (by kernel_rfl) (by kernel_rfl) (by kernel_rfl)) rfl ?_
     refine G_nil ?_
     refine G_then ?_
     refine G_ret ?_
     refine G_retR ?_
     refine q_some fun hA => ?_
     show outV _ _ = some _
     kernel_rfl
    ·refine G_skip ?_
     refine G_then ?_
     refine G_seq ?_
     refine G_seq ?_
     refine G_region ?_
     refine G_op [0] (v := (bb ((p_r.Kind == 5)))) (E_p (by kernel_rfl)) rfl rfl ?_
     refine G_op [0] (v := (bb ((p_r.Kind == 5)))) (E_p (by kernel_rfl)) rfl rfl ?_
     refine G_nil ?_
     refine G_then ?_
     refine G_cond (t := (p_r.Kind == 5)) (by kernel_rfl) (fun _ => ?_) (fun _ => ?_)
     ·refine G_exit ?_
      refine G_thenX ?_
      refine G_thenX ?_
      refine G_inBO rfl ?_
      refine G_thenX ?_
      refine G_inBO rfl ?_
      refine G_thenX ?_
      refine G_inBO rfl ?_
      refine G_thenX ?_
      refine G_inBO rfl ?_
      refine G_thenX ?_
      refine G_inBX ?_
      refine G_then ?_
      refine G_seq ?_
      refine G_region ?_
      refine G_op [0] (v := (.box [1001] 10)) (E_p (by kernel_rfl)) rfl rfl ?_
      refine G_op [0] (v := (bb p_r.On)) (E_load (by kernel_rfl)) rfl rfl ?_
      refine G_op [0] (v := (.box [1003] 10)) (E_p (by kernel_rfl)) rfl rfl ?_
      refine G_op0 [0] (v := (.val (.tup []))) (E_store (b := [1003]) (o := 10) (cs := [(bb p_r.On)]) (cells := [(ii p_r.Kind), (ii 0), (ii 0), (ii 0), (ii 0), (ii 0), (ii 0), (ii 0), (ii 0), (ii 0), (bb false), (ii 0), (ii 0)]) (cells' := [(ii p_r.Kind), (ii 0), (ii 0), (ii 0), (ii 0), (ii 0), (ii 0), (ii 0), (ii 0), (ii 0), (bb p_r.On), (ii 0), (ii 0)]) (h' := [([1001], (.box (lRecT p_r))), ([1002], (.box zRecT)), ([1003], (.box [(ii p_r.Kind), (ii 0), (ii 0), (ii 0), (ii 0), (ii 0), (ii 0), (ii 0), (ii 0), (ii 0), (bb p_r.On), (ii 0), (ii 0)]))]) (by kernel_rfl) (by kernel_rfl) (by kernel_rfl) rfl (by kernel_rfl) (by kernel_rfl) (by kernel_rfl) (by kernel_rfl)) rfl ?_
      refine G_nil ?_
      refine G_then ?_
      refine G_subW (s0 := ⟨⟨73, [(3, (.box [1003] 0)), (2, (.box [1002] 0)), (1, (.box [1001] 0))]⟩, mkH [([1001], (.box (lRecT p_r))), ([1002], (.box zRecT)), ([1003], (.box [(ii p_r.Kind), (ii 0), (ii 0), (ii 0), (ii 0), (ii 0), (ii 0), (ii 0), (ii 0), (ii 0), (bb p_r.On), (ii 0), (ii 0)]))]⟩) (by exact Sub_env ⟨.refl _, .refl _, .refl _, trivial⟩) ?_
      refine G_exit ?_
      refine G_inBO rfl ?_
      refine G_thenX ?_
      refine G_inBX ?_
      refine G_then ?_
      refine G_seq ?_
      refine G_region ?_
      refine G_op [0] (v := (.agg [(ii p_r.Kind), (ii 0), (ii 0), (ii 0), (ii 0), (ii 0), (ii 0), (ii 0), (ii 0), (ii 0), (bb p_r.On), (ii 0), (ii 0)])) (E_load (by kernel_rfl)) rfl rfl ?_
      refine G_op0 [0] (v := (.val (.tup []))) (E_store (b := [1002]) (o := 0) (cs := [(ii p_r.Kind), (ii 0), (ii 0), (ii 0), (ii 0), (ii 0), (ii 0), (ii 0), (ii 0), (ii 0), (bb p_r.On), (ii 0), (ii 0)]) (cells := zRecT) (cells' := [(ii p_r.Kind), (ii 0), (ii 0), (ii 0), (ii 0), (ii 0), (ii 0), (ii 0), (ii 0), (ii 0), (bb p_r.On), (ii 0), (ii 0)]) (h' := [([1001], (.box (lRecT p_r))), ([1002], (.box [(ii p_r.Kind), (ii 0), (ii 0), (ii 0), (ii 0), (ii 0), (ii 0), (ii 0), (ii 0), (ii 0), (bb p_r.On), (ii 0), (ii 0)])), ([1003], (.box [(ii p_r.Kind), (ii 0), (ii 0), (ii 0), (ii 0), (ii 0), (ii 0), (ii 0), (ii 0), (ii 0), (bb p_r.On), (ii 0), (ii 0)]))]) (by kernel_rfl) (by kernel_rfl) (by kernel_rfl) rfl (by kernel_rfl) (by kernel_rfl) (by kernel_rfl) (by kernel_rfl)) rfl ?_
      refine G_nil ?_
      refine G_then ?_
      refine G_ret ?_
      refine G_retR ?_
      refine q_some fun hA => ?_
      show outV _ _ = some _
      kernel_rfl
     ·refine G_skip ?_
      refine G_then ?_
      refine G_seq ?_
      refine G_region ?_
      refine G_op [0] (v := (bb ((p_r.Kind == 6)))) (E_p (by kernel_rfl)) rfl rfl ?_
      refine G_op [0] (v := (bb ((p_r.Kind == 6)))) (E_p (by kernel_rfl)) rfl rfl ?_
      refine G_nil ?_
      refine G_then ?_
      refine G_cond (t := (p_r.Kind == 6)) (by kernel_rfl) (fun _ => ?_) (fun _ => ?_)
      ·refine G_exit ?_
       refine G_thenX ?_
       refine G_inBO rfl ?_
       refine G_thenX ?_
       refine G_inBO rfl ?_
       refine G_thenX ?_
       refine G_inBO rfl ?_
       refine G_thenX ?_
       refine G_inBO rfl ?_
       refine G_thenX ?_
       refine G_inBO rfl ?_
       refine G_thenX ?_
       refine G_inBX ?_
       refine G_then ?_
       refine G_subW (s0 := ⟨⟨73, [(3, (.box [1003] 0)), (2, (.box [1002] 0)), (1, (.box [1001] 0))]⟩, mkH [([1001], (.box (lRecT p_r))), ([1002], (.box zRecT)), ([1003], (.box [(ii p_r.Kind), (ii 0), (ii 0), (ii 0), (ii 0), (ii 0), (ii 0), (ii 0), (ii 0), (ii 0), (bb false), (ii 0), (ii 0)]))]⟩) (by exact Sub_env ⟨.refl _, .refl _, .refl _, trivial⟩) ?_
       refine G_seq ?_
       refine G_drawA (fun c => if c = 3 then [1003] else if c = 1 then [1001] else []) (by exact ⟨trivial, trivial, trivial, trivial, trivial, rfl, trivial, trivial, trivial, trivial, trivial, rfl, trivial⟩) (by decide) ?_
       refine X_op (w := (.box [1001] 11)) (v := (.box [1001] 11)) (E_p (by kernel_rfl)) rfl rfl rfl ?_
       refine X_op (w := (ii p_r.Seq)) (v := (ii p_r.Seq)) (E_load (by kernel_rfl)) rfl rfl rfl ?_
       refine X_op (w := (.box [1001] 12)) (v := (.box [1001] 12)) (E_p (by kernel_rfl)) rfl rfl rfl ?_
       refine X_op (w := (ii p_r.What)) (v := (ii p_r.What)) (E_load (by kernel_rfl)) rfl rfl rfl ?_
       refine X_op (w := (.box [1001] 1)) (v := (.box [1001] 1)) (E_p (by kernel_rfl)) rfl rfl rfl ?_
       refine X_op (w := (ii p_r.Order)) (v := (ii p_r.Order)) (E_load (by kernel_rfl)) rfl rfl rfl ?_
       refine X_op (w := (.box [1001] 5)) (v := (.box [1001] 5)) (E_p (by kernel_rfl)) rfl rfl rfl ?_
       refine X_op (w := (ii p_r.Qty)) (v := (ii p_r.Qty)) (E_load (by kernel_rfl)) rfl rfl rfl ?_
       refine X_op (w := (.box [1001] 6)) (v := (.box [1001] 6)) (E_p (by kernel_rfl)) rfl rfl rfl ?_
       refine X_op (w := (ii p_r.Price)) (v := (ii p_r.Price)) (E_load (by kernel_rfl)) rfl rfl rfl ?_
       refine X_op (w := (.box [1003] 11)) (v := (.box [1003] 11)) (E_p (by kernel_rfl)) rfl rfl rfl ?_
       refine X_op0 (v := (.val (.tup []))) (E_store (b := [1003]) (o := 11) (cs := [(ii p_r.Seq)]) (cells := [(ii p_r.Kind), (ii 0), (ii 0), (ii 0), (ii 0), (ii 0), (ii 0), (ii 0), (ii 0), (ii 0), (bb false), (ii 0), (ii 0)]) (cells' := [(ii p_r.Kind), (ii 0), (ii 0), (ii 0), (ii 0), (ii 0), (ii 0), (ii 0), (ii 0), (ii 0), (bb false), (ii p_r.Seq), (ii 0)]) (h' := [([1001], (.box (lRecT p_r))), ([1002], (.box zRecT)), ([1003], (.box [(ii p_r.Kind), (ii 0), (ii 0), (ii 0), (ii 0), (ii 0), (ii 0), (ii 0), (ii 0), (ii 0), (bb false), (ii p_r.Seq), (ii 0)]))]) (by kernel_rfl) (by kernel_rfl) (by kernel_rfl) rfl (by kernel_rfl) (by kernel_rfl) (by kernel_rfl) (by kernel_rfl)) rfl ?_
       refine X_op (w := (.box [1003] 12)) (v := (.box [1003] 12)) (E_p (by kernel_rfl)) rfl rfl rfl ?_
       refine X_op0 (v := (.val (.tup []))) (E_store (b := [1003]) (o := 12) (cs := [(ii p_r.What)]) (cells := [(ii p_r.Kind), (ii 0), (ii 0), (ii 0), (ii 0), (ii 0), (ii 0), (ii 0), (ii 0), (ii 0), (bb false), (ii p_r.Seq), (ii 0)]) (cells' := [(ii p_r.Kind), (ii 0), (ii 0), (ii 0), (ii 0), (ii 0), (ii 0), (ii 0), (ii 0), (ii 0), (bb false), (ii p_r.Seq), (ii p_r.What)]) (h' := [([1001], (.box (lRecT p_r))), ([1002], (.box zRecT)), ([1003], (.box [(ii p_r.Kind), (ii 0), (ii 0), (ii 0), (ii 0), (ii 0), (ii 0), (ii 0), (ii 0), (ii 0), (bb false), (ii p_r.Seq), (ii p_r.What)]))]) (by kernel_rfl) (by kernel_rfl) (by kernel_rfl) rfl (by kernel_rfl) (by kernel_rfl) (by kernel_rfl) (by kernel_rfl)) rfl ?_
       refine X_op (w := (.box [1003] 1)) (v := (.box [1003] 1)) (E_p (by kernel_rfl)) rfl rfl rfl ?_
       refine X_op0 (v := (.val (.tup []))) (E_store (b := [1003]) (o := 1) (cs := [(ii p_r.Order)]) (cells := [(ii p_r.Kind), (ii 0), (ii 0), (ii 0), (ii 0), (ii 0), (ii 0), (ii 0), (ii 0), (ii 0), (bb false), (ii p_r.Seq), (ii p_r.What)]) (cells' := [(ii p_r.Kind), (ii p_r.Order), (ii 0), (ii 0), (ii 0), (ii 0), (ii 0), (ii 0), (ii 0), (ii 0), (bb false), (ii p_r.Seq), (ii p_r.What)]) (h' := [([1001], (.box (lRecT p_r))), ([1002], (.box zRecT)), ([1003], (.box [(ii p_r.Kind), (ii p_r.Order), (ii 0), (ii 0), (ii 0), (ii 0), (ii 0), (ii 0), (ii 0), (ii 0), (bb false), (ii p_r.Seq), (ii p_r.What)]))]) (by kernel_rfl) (by kernel_rfl) (by kernel_rfl) rfl (by kernel_rfl) (by kernel_rfl) (by kernel_rfl) (by kernel_rfl)) rfl ?_
       refine X_op (w := (.box [1003] 5)) (v := (.box [1003] 5)) (E_p (by kernel_rfl)) rfl rfl rfl ?_
       refine X_op0 (v := (.val (.tup []))) (E_store (b := [1003]) (o := 5) (cs := [(ii p_r.Qty)]) (cells := [(ii p_r.Kind), (ii p_r.Order), (ii 0), (ii 0), (ii 0), (ii 0), (ii 0), (ii 0), (ii 0), (ii 0), (bb false), (ii p_r.Seq), (ii p_r.What)]) (cells' := [(ii p_r.Kind), (ii p_r.Order), (ii 0), (ii 0), (ii 0), (ii p_r.Qty), (ii 0), (ii 0), (ii 0), (ii 0), (bb false), (ii p_r.Seq), (ii p_r.What)]) (h' := [([1001], (.box (lRecT p_r))), ([1002], (.box zRecT)), ([1003], (.box [(ii p_r.Kind), (ii p_r.Order), (ii 0), (ii 0), (ii 0), (ii p_r.Qty), (ii 0), (ii 0), (ii 0), (ii 0), (bb false), (ii p_r.Seq), (ii p_r.What)]))]) (by kernel_rfl) (by kernel_rfl) (by kernel_rfl) rfl (by kernel_rfl) (by kernel_rfl) (by kernel_rfl) (by kernel_rfl)) rfl ?_
       refine X_op (w := (.box [1003] 6)) (v := (.box [1003] 6)) (E_p (by kernel_rfl)) rfl rfl rfl ?_
       refine X_op0 (v := (.val (.tup []))) (E_store (b := [1003]) (o := 6) (cs := [(ii p_r.Price)]) (cells := [(ii p_r.Kind), (ii p_r.Order), (ii 0), (ii 0), (ii 0), (ii p_r.Qty), (ii 0), (ii 0), (ii 0), (ii 0), (bb false), (ii p_r.Seq), (ii p_r.What)]) (cells' := [(ii p_r.Kind), (ii p_r.Order), (ii 0), (ii 0), (ii 0), (ii p_r.Qty), (ii p_r.Price), (ii 0), (ii 0), (ii 0), (bb false), (ii p_r.Seq), (ii p_r.What)]) (h' := [([1001], (.box (lRecT p_r))), ([1002], (.box zRecT)), ([1003], (.box [(ii p_r.Kind), (ii p_r.Order), (ii 0), (ii 0), (ii 0), (ii p_r.Qty), (ii p_r.Price), (ii 0), (ii 0), (ii 0), (bb false), (ii p_r.Seq), (ii p_r.What)]))]) (by kernel_rfl) (by kernel_rfl) (by kernel_rfl) rfl (by kernel_rfl) (by kernel_rfl) (by kernel_rfl) (by kernel_rfl)) rfl ?_
       refine X_nil (m := [(3, (.box [1003] 0)), (2, (.box [1002] 0))]) (by exact ⟨rfl, rfl, trivial⟩) ?_
       refine G_then ?_
       refine G_exit ?_
       refine G_inBX ?_
       refine G_then ?_
       refine G_seq ?_
       refine G_region ?_
       refine G_op [0] (v := (.agg [(ii p_r.Kind), (ii p_r.Order), (ii 0), (ii 0), (ii 0), (ii p_r.Qty), (ii p_r.Price), (ii 0), (ii 0), (ii 0), (bb false), (ii p_r.Seq), (ii p_r.What)])) (E_load (by kernel_rfl)) rfl rfl ?_
       refine G_op0 [0] (v := (.val (.tup []))) (E_store (b := [1002]) (o := 0) (cs := [(ii p_r.Kind), (ii p_r.Order), (ii 0), (ii 0), (ii 0), (ii p_r.Qty), (ii p_r.Price), (ii 0), (ii 0), (ii 0), (bb false), (ii p_r.Seq), (ii p_r.What)]) (cells := zRecT) (cells' := [(ii p_r.Kind), (ii p_r.Order), (ii 0), (ii 0), (ii 0), (ii p_r.Qty), (ii p_r.Price), (ii 0), (ii 0), (ii 0), (bb false), (ii p_r.Seq), (ii p_r.What)]) (h' := [([1001], (.box (lRecT p_r))), ([1002], (.box [(ii p_r.Kind), (ii p_r.Order), (ii 0), (ii 0), (ii 0), (ii p_r.Qty), (ii p_r.Price), (ii 0), (ii 0), (ii 0), (bb false), (ii p_r.Seq), (ii p_r.What)])), ([1003], (.box [(ii p_r.Kind), (ii p_r.Order), (ii 0), (ii 0), (ii 0), (ii p_r.Qty), (ii p_r.Price), (ii 0), (ii 0), (ii 0), (bb false), (ii p_r.Seq), (ii p_r.What)]))]) (by kernel_rfl) (by kernel_rfl) (by kernel_rfl) rfl (by kernel_rfl) (by kernel_rfl) (by kernel_rfl) (by kernel_rfl)) rfl ?_
       refine G_nil ?_
       refine G_then ?_
       refine G_ret ?_
       refine G_retR ?_
       refine q_some fun hA => ?_
       show outV _ _ = some _
       kernel_rfl
      ·refine G_skip ?_
       refine G_then ?_
       refine G_subW (s0 := ⟨⟨73, [(3, (.box [1003] 0)), (2, (.box [1002] 0)), (1, (.box [1001] 0))]⟩, mkH [([1001], (.box (lRecT p_r))), ([1002], (.box zRecT)), ([1003], (.box [(ii p_r.Kind), (ii 0), (ii 0), (ii 0), (ii 0), (ii 0), (ii 0), (ii 0), (ii 0), (ii 0), (bb false), (ii 0), (ii 0)]))]⟩) (by exact Sub_env ⟨.refl _, .refl _, .refl _, trivial⟩) ?_
       refine G_exit ?_
       refine G_inBO rfl ?_
       refine G_thenX ?_
       refine G_inBO rfl ?_
       refine G_thenX ?_
       refine G_inBO rfl ?_
       refine G_thenX ?_
       refine G_inBO rfl ?_
       refine G_thenX ?_
       refine G_inBO rfl ?_
       refine G_thenX ?_
       refine G_inBO rfl ?_
       refine G_thenX ?_
       refine G_inBX ?_
       refine G_then ?_
       refine G_seq ?_
       refine G_region ?_
       refine G_op [0] (v := (.agg [(ii p_r.Kind), (ii 0), (ii 0), (ii 0), (ii 0), (ii 0), (ii 0), (ii 0), (ii 0), (ii 0), (bb false), (ii 0), (ii 0)])) (E_load (by kernel_rfl)) rfl rfl ?_
       refine G_op0 [0] (v := (.val (.tup []))) (E_store (b := [1002]) (o := 0) (cs := [(ii p_r.Kind), (ii 0), (ii 0), (ii 0), (ii 0), (ii 0), (ii 0), (ii 0), (ii 0), (ii 0), (bb false), (ii 0), (ii 0)]) (cells := zRecT) (cells' := [(ii p_r.Kind), (ii 0), (ii 0), (ii 0), (ii 0), (ii 0), (ii 0), (ii 0), (ii 0), (ii 0), (bb false), (ii 0), (ii 0)]) (h' := [([1001], (.box (lRecT p_r))), ([1002], (.box [(ii p_r.Kind), (ii 0), (ii 0), (ii 0), (ii 0), (ii 0), (ii 0), (ii 0), (ii 0), (ii 0), (bb false), (ii 0), (ii 0)])), ([1003], (.box [(ii p_r.Kind), (ii 0), (ii 0), (ii 0), (ii 0), (ii 0), (ii 0), (ii 0), (ii 0), (ii 0), (bb false), (ii 0), (ii 0)]))]) (by kernel_rfl) (by kernel_rfl) (by kernel_rfl) rfl (by kernel_rfl) (by kernel_rfl) (by kernel_rfl) (by kernel_rfl)) rfl ?_
       refine G_nil ?_
       refine G_then ?_
       refine G_ret ?_
       refine G_retR ?_
       refine q_some fun hA => ?_
       show outV _ _ = some _
       kernel_rfl
theorem s75 (x0 : RecT) (ds : List DV) (hd : List.map z1 ds = List.map z1 [.agg (e_RecT x0)]) : sp75 ds = (g_rec_fields x0).map fun r => .agg (e_RecT r) :=
 specT_at (ea := fun (a : RecT) => [.agg (e_RecT a)]) (eb := fun (r : RecT) => .agg (e_RecT r)) (g := fun (a : RecT) => g_rec_fields a) inj75 x0 hd

def t76_0 : List AIns := (⟨(some 2), (.p (.mv (.t 8))), none⟩ :: [])
def k76_0 : ACode := (.region (⟨(some 3), (.p (.mv (.t 0))), none⟩ :: ⟨(some 4), (.p (.bin .geq (.t 3) (.c (.int .i64 1)))), none⟩ :: ⟨(some 5), (.p (.mv (.t 4))), none⟩ :: ⟨(some 6), (.p (.mv (.t 0))), (some (5, true))⟩ :: ⟨(some 7), (.p (.bin .leq (.t 6) (.c (.int .i64 1000000000000)))), (some (5, true))⟩ :: ⟨(some 8), (.p (.pick (.t 5) (.t 7) (.c (.bool false)))), none⟩ :: t76_0))
def k76_1 : ACode := (.seq k76_0 .ret)
def cd76 : ACode := (.seq (.region (⟨(some 2), (.p (.mv (.c (.bool false)))), none⟩ :: [])) k76_1)
def rs76 : List ARes := [(.tmp 2)]
def af76 : AFn := ⟨cd76, rs76, 9⟩
theorem c76 : compF Try.prog 76 = some af76 := by kernel_rfl
noncomputable def g_rec_known (p_id : Int) : Option Bool := (some ((decide (p_id ≥ 1)) && (decide (p_id ≤ 1000000000000))))
noncomputable def sp76 : List DV → Option DV := specT (fun (a : Int) => [.int .i64 a]) (fun (r : Bool) => .bool r) (fun (a : Int) => g_rec_known a)
theorem inj76 : ∀ (a b : Int), List.map z1 ((fun (a : Int) => [.int .i64 a]) a) = List.map z1 ((fun (a : Int) => [.int .i64 a]) b) → a = b := by
 intro a0 b0 h
 simp only [List.map_cons, List.map_nil, List.cons.injEq, and_true] at h
 exact (DV.int.inj h).2
set_option maxHeartbeats 1000000 in
theorem w76 {C : FuncId → Con} (hC : ConOk Try.prog C) : ValOk Try.prog 76 sp76 := by
 refine valT_of hC c76 _ _ _ inj76 ?_
 intro p_id
 show Imq (g_rec_known p_id) (fun _ => True) fun r => WP Try.prog C (fun _ => False) cd76 (retQ fun s => outV s rs76 = some (.bool r)) ⟨⟨9, [(0, (ii p_id))]⟩, mkH []⟩
 unfold g_rec_known
 refine G_seq ?_
 refine G_region ?_
 refine G_op [0] (v := (bb false)) (E_p (by kernel_rfl)) rfl rfl ?_
 refine G_nil ?_
 refine G_then ?_
 refine G_seq ?_
 refine G_region ?_
 refine G_op [0] (v := (ii p_id)) (E_p (by kernel_rfl)) rfl rfl ?_
 refine G_op [0] (v := (bb ((decide (p_id ≥ 1))))) (E_p (by kernel_rfl)) rfl rfl ?_
 refine G_op [0] (v := (bb ((decide (p_id ≥ 1))))) (E_p (by kernel_rfl)) rfl rfl ?_
 refine G_pure (l := t76_0) (st := ⟨⟨9, [(8, (bb (((decide (p_id ≥ 1)) && (decide (p_id ≤ 1000000000000)))))), (2, (bb false))]⟩, mkH []⟩) ?_ (fun r3 => ?_)
 ·refine G_op [0] (v := (bb (((decide (p_id ≥ 1)) && (decide (p_id ≤ 1000000000000)))))) (E_p (by kernel_rfl)) rfl rfl ?_
  refine G_nil ?_
  refine G_then ?_
  refine G_ret ?_
  refine G_retR ?_
  refine q_some fun hA => ?_
  show outV _ _ = some _
  kernel_rfl
 ·refine q_two (decide (p_id ≥ 1)) (fun h1 => ?_) (fun h1 => ?_)
  ·refine G_subR (Sub_lit (t := 5) (v := true) rfl h1) ?_
   refine G_op [0] (v := (ii p_id)) (E_p (by kernel_rfl)) rfl rfl ?_
   refine G_op [0] (v := (bb ((decide (p_id ≤ 1000000000000))))) (E_p (by kernel_rfl)) rfl rfl ?_
   refine G_op [0] (v := (bb ((decide (p_id ≤ 1000000000000))))) (E_p (by kernel_rfl)) rfl rfl ?_
   exact q_some fun h => RP_sub (by exact Sub_env ⟨(Wk_and1 h1), .refl _, trivial⟩) h
  ·refine G_subR (Sub_lit (t := 5) (v := false) rfl h1) ?_
   refine G_off rfl rfl ?_
   refine G_off rfl rfl ?_
   refine G_op [0] (v := (bb false)) (E_p (by kernel_rfl)) rfl rfl ?_
   exact q_some fun h => RP_sub (by exact Sub_env ⟨(Wk_and0 h1), .refl _, trivial⟩) h
theorem s76 (x0 : Int) (ds : List DV) (hd : List.map z1 ds = List.map z1 [.int .i64 x0]) : sp76 ds = (g_rec_known x0).map fun r => .bool r :=
 specT_at (ea := fun (a : Int) => [.int .i64 a]) (eb := fun (r : Bool) => .bool r) (g := fun (a : Int) => g_rec_known a) inj76 x0 hd

def t77_0 : List AIns := (⟨(some 4), (.p (.mv (.t 11))), none⟩ :: [])
def k77_0 : ACode := (.region (⟨(some 5), (.p (.mv (.t 0))), none⟩ :: ⟨(some 6), (.p (.bin .geq (.t 5) (.c (.int .i64 0)))), none⟩ :: ⟨(some 7), (.p (.mv (.t 6))), none⟩ :: ⟨(some 8), (.p (.mv (.t 0))), (some (7, true))⟩ :: ⟨(some 9), (.p (.mv (.t 1))), (some (7, true))⟩ :: ⟨(some 10), (.p (.bin .lss (.t 8) (.t 9))), (some (7, true))⟩ :: ⟨(some 11), (.p (.pick (.t 7) (.t 10) (.c (.bool false)))), none⟩ :: t77_0))
def k77_1 : ACode := (.seq k77_0 .ret)
def cd77 : ACode := (.seq (.region (⟨(some 4), (.p (.mv (.c (.bool false)))), none⟩ :: [])) k77_1)
def rs77 : List ARes := [(.tmp 4)]
def af77 : AFn := ⟨cd77, rs77, 12⟩
theorem c77 : compF Try.prog 77 = some af77 := by kernel_rfl
noncomputable def g_rec_below (p_n : Int) (p_many : Int) : Option Bool := (some ((decide (p_n ≥ 0)) && (decide (p_n < p_many))))
noncomputable def sp77 : List DV → Option DV := specT (fun (a : Int × Int) => [.int .i64 a.1, .int .i64 a.2]) (fun (r : Bool) => .bool r) (fun (a : Int × Int) => g_rec_below a.1 a.2)
theorem inj77 : ∀ (a b : Int × Int), List.map z1 ((fun (a : Int × Int) => [.int .i64 a.1, .int .i64 a.2]) a) = List.map z1 ((fun (a : Int × Int) => [.int .i64 a.1, .int .i64 a.2]) b) → a = b := by
 rintro ⟨a0, a1⟩ ⟨b0, b1⟩ h
 simp only [List.map_cons, List.map_nil, List.cons.injEq, and_true] at h
 obtain ⟨h0, h1⟩ := h
 exact (pair_eq (DV.int.inj h0).2 (DV.int.inj h1).2)
set_option maxHeartbeats 1000000 in
theorem w77 {C : FuncId → Con} (hC : ConOk Try.prog C) : ValOk Try.prog 77 sp77 := by
 refine valT_of hC c77 _ _ _ inj77 ?_
 rintro ⟨p_n, p_many⟩
 show Imq (g_rec_below p_n p_many) (fun _ => True) fun r => WP Try.prog C (fun _ => False) cd77 (retQ fun s => outV s rs77 = some (.bool r)) ⟨⟨12, [(0, (ii p_n)), (1, (ii p_many))]⟩, mkH []⟩
 unfold g_rec_below
 refine G_seq ?_
 refine G_region ?_
 refine G_op [0] (v := (bb false)) (E_p (by kernel_rfl)) rfl rfl ?_
 refine G_nil ?_
 refine G_then ?_
 refine G_seq ?_
 refine G_region ?_
 refine G_op [0] (v := (ii p_n)) (E_p (by kernel_rfl)) rfl rfl ?_
 refine G_op [0] (v := (bb ((decide (p_n ≥ 0))))) (E_p (by kernel_rfl)) rfl rfl ?_
 refine G_op [0] (v := (bb ((decide (p_n ≥ 0))))) (E_p (by kernel_rfl)) rfl rfl ?_
 refine G_pure (l := t77_0) (st := ⟨⟨12, [(11, (bb (((decide (p_n ≥ 0)) && (decide (p_n < p_many)))))), (4, (bb false))]⟩, mkH []⟩) ?_ (fun r3 => ?_)
 ·refine G_op [0] (v := (bb (((decide (p_n ≥ 0)) && (decide (p_n < p_many)))))) (E_p (by kernel_rfl)) rfl rfl ?_
  refine G_nil ?_
  refine G_then ?_
  refine G_ret ?_
  refine G_retR ?_
  refine q_some fun hA => ?_
  show outV _ _ = some _
  kernel_rfl
 ·refine q_two (decide (p_n ≥ 0)) (fun h1 => ?_) (fun h1 => ?_)
  ·refine G_subR (Sub_lit (t := 7) (v := true) rfl h1) ?_
   refine G_op [0] (v := (ii p_n)) (E_p (by kernel_rfl)) rfl rfl ?_
   refine G_op [0] (v := (ii p_many)) (E_p (by kernel_rfl)) rfl rfl ?_
   refine G_op [0] (v := (bb ((decide (p_n < p_many))))) (E_p (by kernel_rfl)) rfl rfl ?_
   refine G_op [0] (v := (bb ((decide (p_n < p_many))))) (E_p (by kernel_rfl)) rfl rfl ?_
   exact q_some fun h => RP_sub (by exact Sub_env ⟨(Wk_and1 h1), .refl _, trivial⟩) h
  ·refine G_subR (Sub_lit (t := 7) (v := false) rfl h1) ?_
   refine G_off rfl rfl ?_
   refine G_off rfl rfl ?_
   refine G_off rfl rfl ?_
   refine G_op [0] (v := (bb false)) (E_p (by kernel_rfl)) rfl rfl ?_
   exact q_some fun h => RP_sub (by exact Sub_env ⟨(Wk_and0 h1), .refl _, trivial⟩) h
theorem s77 (x0 : Int) (x1 : Int) (ds : List DV) (hd : List.map z1 ds = List.map z1 [.int .i64 x0, .int .i64 x1]) : sp77 ds = (g_rec_below x0 x1).map fun r => .bool r :=
 specT_at (ea := fun (a : Int × Int) => [.int .i64 a.1, .int .i64 a.2]) (eb := fun (r : Bool) => .bool r) (g := fun (a : Int × Int) => g_rec_below a.1 a.2) inj77 (x0, x1) hd

def t78_0 : List AIns := (⟨(some 2), (.p (.mv (.t 10))), none⟩ :: [])
def k78_0 : ACode := (.region (⟨(some 3), (.p (.foff 5 (.t 1))), none⟩ :: ⟨(some 4), (.r (.load 1 false (.t 3))), none⟩ :: ⟨(some 5), (.p (.bin .geq (.t 4) (.c (.int .i64 1)))), none⟩ :: ⟨(some 6), (.p (.mv (.t 5))), none⟩ :: ⟨(some 7), (.p (.foff 6 (.t 1))), (some (6, true))⟩ :: ⟨(some 8), (.r (.load 1 false (.t 7))), (some (6, true))⟩ :: ⟨(some 9), (.p (.bin .geq (.t 8) (.c (.int .i64 1)))), (some (6, true))⟩ :: ⟨(some 10), (.p (.pick (.t 6) (.t 9) (.c (.bool false)))), none⟩ :: t78_0))
def k78_1 : ACode := (.seq k78_0 .ret)
def cd78 : ACode := (.seq (.region (⟨(some 1), (.a (.bx (.t 0))), none⟩ :: ⟨(some 2), (.p (.mv (.c (.bool false)))), none⟩ :: [])) k78_1)
def rs78 : List ARes := [(.tmp 2)]
def af78 : AFn := ⟨cd78, rs78, 11⟩
theorem c78 : compF Try.prog 78 = some af78 := by kernel_rfl
noncomputable def g_rec_sized (p_r : RecT) : Option Bool := (some ((decide (p_r.Qty ≥ 1)) && (decide (p_r.Price ≥ 1))))
noncomputable def sp78 : List DV → Option DV := specT (fun (a : RecT) => [.agg (e_RecT a)]) (fun (r : Bool) => .bool r) (fun (a : RecT) => g_rec_sized a)
theorem inj78 : ∀ (a b : RecT), List.map z1 ((fun (a : RecT) => [.agg (e_RecT a)]) a) = List.map z1 ((fun (a : RecT) => [.agg (e_RecT a)]) b) → a = b := by
 intro a0 b0 h
 simp only [List.map_cons, List.map_nil, List.cons.injEq, and_true] at h
 exact (e_RecT_inj (DV.agg.inj h))
set_option maxHeartbeats 1000000 in
theorem w78 {C : FuncId → Con} (hC : ConOk Try.prog C) : ValOk Try.prog 78 sp78 := by
 refine valT_of hC c78 _ _ _ inj78 ?_
 intro p_r
 show Imq (g_rec_sized p_r) (fun _ => True) fun r => WP Try.prog C (fun _ => False) cd78 (retQ fun s => outV s rs78 = some (.bool r)) ⟨⟨11, [(0, (.val (.agg [(.int .i64 p_r.Kind), (.int .i64 p_r.Order), (.int .i64 p_r.Account), (.int .i64 p_r.Symbol), (.int .i64 p_r.Side), (.int .i64 p_r.Qty), (.int .i64 p_r.Price), (.int .i64 p_r.Long), (.int .i64 p_r.Short), (.int .i64 p_r.Open), (.bool p_r.On), (.int .i64 p_r.Seq), (.int .i64 p_r.What)])))]⟩, mkH []⟩
 unfold g_rec_sized
 refine G_seq ?_
 refine G_region ?_
 refine G_op [1001] (v := (.box [1001] 0)) (E_a (u := (.box [1001] 0)) (b := (.box (lRecT p_r))) (h' := [([1001], (.box (lRecT p_r)))]) (by kernel_rfl) (by kernel_rfl) (by kernel_rfl)) rfl rfl ?_
 refine G_op [0] (v := (bb false)) (E_p (by kernel_rfl)) rfl rfl ?_
 refine G_nil ?_
 refine G_then ?_
 refine G_seq ?_
 refine G_region ?_
 refine G_op [0] (v := (.box [1001] 5)) (E_p (by kernel_rfl)) rfl rfl ?_
 refine G_op [0] (v := (ii p_r.Qty)) (E_load (by kernel_rfl)) rfl rfl ?_
 refine G_op [0] (v := (bb ((decide (p_r.Qty ≥ 1))))) (E_p (by kernel_rfl)) rfl rfl ?_
 refine G_op [0] (v := (bb ((decide (p_r.Qty ≥ 1))))) (E_p (by kernel_rfl)) rfl rfl ?_
 refine G_pure (l := t78_0) (st := ⟨⟨11, [(10, (bb (((decide (p_r.Qty ≥ 1)) && (decide (p_r.Price ≥ 1)))))), (2, (bb false))]⟩, mkH []⟩) ?_ (fun r3 => ?_)
 ·refine G_op [0] (v := (bb (((decide (p_r.Qty ≥ 1)) && (decide (p_r.Price ≥ 1)))))) (E_p (by kernel_rfl)) rfl rfl ?_
  refine G_nil ?_
  refine G_then ?_
  refine G_ret ?_
  refine G_retR ?_
  refine q_some fun hA => ?_
  show outV _ _ = some _
  kernel_rfl
 ·refine q_two (decide (p_r.Qty ≥ 1)) (fun h1 => ?_) (fun h1 => ?_)
  ·refine G_subR (Sub_lit (t := 6) (v := true) rfl h1) ?_
   refine G_op [0] (v := (.box [1001] 6)) (E_p (by kernel_rfl)) rfl rfl ?_
   refine G_op [0] (v := (ii p_r.Price)) (E_load (by kernel_rfl)) rfl rfl ?_
   refine G_op [0] (v := (bb ((decide (p_r.Price ≥ 1))))) (E_p (by kernel_rfl)) rfl rfl ?_
   refine G_op [0] (v := (bb ((decide (p_r.Price ≥ 1))))) (E_p (by kernel_rfl)) rfl rfl ?_
   exact q_some fun h => RP_sub (by exact Sub_keep ⟨(Wk_and1 h1), .refl _, trivial⟩ trivial (by kernel_rfl) (by kernel_rfl)) h
  ·refine G_subR (Sub_lit (t := 6) (v := false) rfl h1) ?_
   refine G_off rfl rfl ?_
   refine G_off rfl rfl ?_
   refine G_off rfl rfl ?_
   refine G_op [0] (v := (bb false)) (E_p (by kernel_rfl)) rfl rfl ?_
   exact q_some fun h => RP_sub (by exact Sub_keep ⟨(Wk_and0 h1), .refl _, trivial⟩ trivial (by kernel_rfl) (by kernel_rfl)) h
theorem s78 (x0 : RecT) (ds : List DV) (hd : List.map z1 ds = List.map z1 [.agg (e_RecT x0)]) : sp78 ds = (g_rec_sized x0).map fun r => .bool r :=
 specT_at (ea := fun (a : RecT) => [.agg (e_RecT a)]) (eb := fun (r : Bool) => .bool r) (g := fun (a : RecT) => g_rec_sized a) inj78 x0 hd

def t79_1 : List AIns := (⟨(some 2), (.p (.mv (.t 28))), none⟩ :: [])
def t79_2 : List AIns := (⟨(some 2), (.p (.mv (.t 45))), none⟩ :: [])
def t79_0 : List AIns := (⟨(some 11), (.p (.mv (.t 10))), none⟩ :: ⟨(some 12), (.p (.foff 1 (.t 1))), (some (11, false))⟩ :: ⟨(some 13), (.r (.load 1 false (.t 12))), (some (11, false))⟩ :: ⟨(some 14), (.r (.call 76 [(.t 13)])), (some (11, false))⟩ :: ⟨(some 15), (.p (.un .not (.t 14))), (some (11, false))⟩ :: ⟨(some 16), (.p (.pick (.t 11) (.c (.bool true)) (.t 15))), none⟩ :: [])
def k79_0 : ACode := (.region (⟨(some 3), (.p (.foff 11 (.t 1))), none⟩ :: ⟨(some 4), (.r (.load 1 false (.t 3))), none⟩ :: ⟨(some 5), (.p (.bin .lss (.t 4) (.c (.int .i64 1)))), none⟩ :: ⟨(some 6), (.p (.mv (.t 5))), none⟩ :: ⟨(some 7), (.p (.foff 11 (.t 1))), (some (6, false))⟩ :: ⟨(some 8), (.r (.load 1 false (.t 7))), (some (6, false))⟩ :: ⟨(some 9), (.p (.bin .gtr (.t 8) (.c (.int .i64 1000000000)))), (some (6, false))⟩ :: ⟨(some 10), (.p (.pick (.t 6) (.c (.bool true)) (.t 9))), none⟩ :: t79_0))
def k79_1 : ACode := (.seq k79_0 (.cond (.t 16) (.seq (.region (⟨(some 2), (.p (.mv (.c (.bool false)))), none⟩ :: [])) .ret) .skip))
def k79_2 : ACode := (.region (⟨(some 21), (.p (.foff 5 (.t 1))), none⟩ :: ⟨(some 22), (.r (.load 1 false (.t 21))), none⟩ :: ⟨(some 23), (.p (.bin .geq (.t 22) (.c (.int .i64 1)))), none⟩ :: ⟨(some 24), (.p (.mv (.t 23))), none⟩ :: ⟨(some 25), (.p (.foff 6 (.t 1))), (some (24, true))⟩ :: ⟨(some 26), (.r (.load 1 false (.t 25))), (some (24, true))⟩ :: ⟨(some 27), (.p (.bin .eql (.t 26) (.c (.int .i64 0)))), (some (24, true))⟩ :: ⟨(some 28), (.p (.pick (.t 24) (.t 27) (.c (.bool false)))), none⟩ :: t79_1))
def k79_3 : ACode := (.seq k79_2 .ret)
def k79_4 : ACode := (.seq (.region (⟨(some 31), (.r (.load 13 true (.t 1))), none⟩ :: ⟨(some 32), (.r (.call 78 [(.t 31)])), none⟩ :: ⟨(some 2), (.p (.mv (.t 32))), none⟩ :: [])) .ret)
def k79_5 : ACode := (.seq (.region (⟨(some 36), (.p (.bin .eql (.t 18) (.c (.int .i64 4)))), none⟩ :: ⟨(some 33), (.p (.mv (.t 36))), none⟩ :: [])) (.cond (.t 33) .skip (.region (⟨(some 37), (.p (.bin .eql (.t 18) (.c (.int .i64 6)))), none⟩ :: ⟨(some 33), (.p (.mv (.t 37))), none⟩ :: []))))
def k79_6 : ACode := (.cond (.t 33) .skip k79_5)
def k79_7 : ACode := (.seq (.region (⟨(some 35), (.p (.bin .eql (.t 18) (.c (.int .i64 2)))), none⟩ :: ⟨(some 33), (.p (.mv (.t 35))), none⟩ :: [])) k79_6)
def k79_8 : ACode := (.cond (.t 33) .skip k79_7)
def k79_9 : ACode := (.seq (.region (⟨(some 34), (.p (.bin .eql (.t 18) (.c (.int .i64 1)))), none⟩ :: ⟨(some 33), (.p (.mv (.t 34))), none⟩ :: [])) k79_8)
def k79_10 : ACode := (.region (⟨(some 38), (.p (.foff 5 (.t 1))), none⟩ :: ⟨(some 39), (.r (.load 1 false (.t 38))), none⟩ :: ⟨(some 40), (.p (.bin .eql (.t 39) (.c (.int .i64 0)))), none⟩ :: ⟨(some 41), (.p (.mv (.t 40))), none⟩ :: ⟨(some 42), (.p (.foff 6 (.t 1))), (some (41, true))⟩ :: ⟨(some 43), (.r (.load 1 false (.t 42))), (some (41, true))⟩ :: ⟨(some 44), (.p (.bin .eql (.t 43) (.c (.int .i64 0)))), (some (41, true))⟩ :: ⟨(some 45), (.p (.pick (.t 41) (.t 44) (.c (.bool false)))), none⟩ :: t79_2))
def k79_11 : ACode := (.seq k79_10 .ret)
def k79_12 : ACode := (.cond (.t 33) k79_11 .skip)
def k79_13 : ACode := (.seq k79_9 k79_12)
def k79_14 : ACode := (.cond (.t 29) k79_4 k79_13)
def k79_15 : ACode := (.seq (.region (⟨(some 30), (.p (.bin .eql (.t 18) (.c (.int .i64 5)))), none⟩ :: ⟨(some 29), (.p (.mv (.t 30))), none⟩ :: [])) k79_14)
def k79_16 : ACode := (.cond (.t 19) k79_3 k79_15)
def k79_17 : ACode := (.seq (.region (⟨(some 20), (.p (.bin .eql (.t 18) (.c (.int .i64 3)))), none⟩ :: ⟨(some 19), (.p (.mv (.t 20))), none⟩ :: [])) k79_16)
def k79_18 : ACode := (.block 0 k79_17)
def k79_19 : ACode := (.seq (.region (⟨(some 17), (.p (.foff 12 (.t 1))), none⟩ :: ⟨(some 18), (.r (.load 1 false (.t 17))), none⟩ :: [])) k79_18)
def k79_20 : ACode := (.seq k79_19 (.seq (.region (⟨(some 2), (.p (.mv (.c (.bool false)))), none⟩ :: [])) .ret))
def k79_21 : ACode := (.seq k79_1 k79_20)
def cd79 : ACode := (.seq (.region (⟨(some 1), (.a (.bx (.t 0))), none⟩ :: ⟨(some 2), (.p (.mv (.c (.bool false)))), none⟩ :: [])) k79_21)
def rs79 : List ARes := [(.tmp 2)]
def af79 : AFn := ⟨cd79, rs79, 46⟩
theorem c79 : compF Try.prog 79 = some af79 := by kernel_rfl
noncomputable def g_rec_event (p_r : RecT) : Option Bool := (Option.bind (bif ((decide (p_r.Seq < 1)) || (decide (p_r.Seq > 1000000000))) then (some true) else (Option.bind (g_rec_known p_r.Order) fun v20 => (some (!v20)))) fun (b5 : Bool) => (bif b5 then (some false) else (bif (p_r.What == 3) then (some ((decide (p_r.Qty ≥ 1)) && (p_r.Price == 0))) else (bif (p_r.What == 5) then (Option.bind (g_rec_sized p_r) fun v10 => (some v10)) else (Option.bind ((bif (p_r.What == 1) then (some (p_r.What == 1)) else (Option.bind ((bif (p_r.What == 2) then (some (p_r.What == 2)) else (Option.bind ((bif (p_r.What == 4) then (some (p_r.What == 4)) else (some (p_r.What == 6))) : Option (Bool)) (fun (j15 : Bool) => (some j15)))) : Option (Bool)) (fun (j13 : Bool) => (some j13)))) : Option (Bool)) (fun (j11 : Bool) => (bif j11 then (some ((p_r.Qty == 0) && (p_r.Price == 0))) else (some false))))))))
noncomputable def sp79 : List DV → Option DV := specT (fun (a : RecT) => [.agg (e_RecT a)]) (fun (r : Bool) => .bool r) (fun (a : RecT) => g_rec_event a)
theorem inj79 : ∀ (a b : RecT), List.map z1 ((fun (a : RecT) => [.agg (e_RecT a)]) a) = List.map z1 ((fun (a : RecT) => [.agg (e_RecT a)]) b) → a = b := by
 intro a0 b0 h
 simp only [List.map_cons, List.map_nil, List.cons.injEq, and_true] at h
 exact (e_RecT_inj (DV.agg.inj h))
set_option maxHeartbeats 1000000 in
theorem w79 {C : FuncId → Con} (hC : ConOk Try.prog C) {q76 : List DV → Option DV} (hc76 : C 76 = .val q76) (hs76 : ∀ (x0 : Int) (ds : List DV), List.map z1 ds = List.map z1 [.int .i64 x0] → q76 ds = (g_rec_known x0).map fun r => .bool r) {q78 : List DV → Option DV} (hc78 : C 78 = .val q78) (hs78 : ∀ (x0 : RecT) (ds : List DV), List.map z1 ds = List.map z1 [.agg (e_RecT x0)] → q78 ds = (g_rec_sized x0).map fun r => .bool r) : ValOk Try.prog 79 sp79 := by
 refine valT_of hC c79 _ _ _ inj79 ?_
 intro p_r
 show Imq (g_rec_event p_r) (fun _ => True) fun r => WP Try.prog C (fun _ => False) cd79 (retQ fun s => outV s rs79 = some (.bool r)) ⟨⟨46, [(0, (.val (.agg [(.int .i64 p_r.Kind), (.int .i64 p_r.Order), (.int .i64 p_r.Account), (.int .i64 p_r.Symbol), (.int .i64 p_r.Side), (.int .i64 p_r.Qty), (.int .i64 p_r.Price), (.int .i64 p_r.Long), (.int .i64 p_r.Short), (.int .i64 p_r.Open), (.bool p_r.On), (.int .i64 p_r.Seq), (.int .i64 p_r.What)])))]⟩, mkH []⟩
 unfold g_rec_event
 refine G_seq ?_
 refine G_region ?_
 refine G_op [1001] (v := (.box [1001] 0)) (E_a (u := (.box [1001] 0)) (b := (.box (lRecT p_r))) (h' := [([1001], (.box (lRecT p_r)))]) (by kernel_rfl) (by kernel_rfl) (by kernel_rfl)) rfl rfl ?_
 refine G_op [0] (v := (bb false)) (E_p (by kernel_rfl)) rfl rfl ?_
 refine G_nil ?_
 refine G_then ?_
 refine G_seq ?_
 refine G_seq ?_
 refine G_region ?_
 refine G_op [0] (v := (.box [1001] 11)) (E_p (by kernel_rfl)) rfl rfl ?_
 refine G_op [0] (v := (ii p_r.Seq)) (E_load (by kernel_rfl)) rfl rfl ?_
 refine G_op [0] (v := (bb ((decide (p_r.Seq < 1))))) (E_p (by kernel_rfl)) rfl rfl ?_
 refine G_op [0] (v := (bb ((decide (p_r.Seq < 1))))) (E_p (by kernel_rfl)) rfl rfl ?_
 refine G_pure (l := t79_0) (st := ⟨⟨46, [(10, (bb (((decide (p_r.Seq < 1)) || (decide (p_r.Seq > 1000000000)))))), (2, (bb false)), (1, (.box [1001] 0))]⟩, mkH [([1001], (.box (lRecT p_r)))]⟩) ?_ (fun r3 => ?_)
 ·refine G_op [0] (v := (bb (((decide (p_r.Seq < 1)) || (decide (p_r.Seq > 1000000000)))))) (E_p (by kernel_rfl)) rfl rfl ?_
  refine G_joinR (l := []) (st := fun (b5 : Bool) => ⟨⟨46, [(16, (bb b5)), (2, (bb false)), (1, (.box [1001] 0))]⟩, mkH [([1001], (.box (lRecT p_r)))]⟩) (fun b5 => ?_) (fun r6 hr6 => ?_)
  ·refine G_nil ?_
   refine G_then ?_
   refine G_cond (t := b5) (by kernel_rfl) (fun _ => ?_) (fun _ => ?_)
   ·refine G_seq ?_
    refine G_region ?_
    refine G_op [0] (v := (bb false)) (E_p (by kernel_rfl)) rfl rfl ?_
    refine G_nil ?_
    refine G_then ?_
    refine G_ret ?_
    refine G_thenR ?_
    refine G_retR ?_
    refine q_some fun hA => ?_
    show outV _ _ = some _
    kernel_rfl
   ·refine G_skip ?_
    refine G_then ?_
    refine G_seq ?_
    refine G_seq ?_
    refine G_region ?_
    refine G_op [0] (v := (.box [1001] 12)) (E_p (by kernel_rfl)) rfl rfl ?_
    refine G_op [0] (v := (ii p_r.What)) (E_load (by kernel_rfl)) rfl rfl ?_
    refine G_nil ?_
    refine G_then ?_
    refine G_block ?_
    refine G_seq ?_
    refine G_region ?_
    refine G_op [0] (v := (bb ((p_r.What == 3)))) (E_p (by kernel_rfl)) rfl rfl ?_
    refine G_op [0] (v := (bb ((p_r.What == 3)))) (E_p (by kernel_rfl)) rfl rfl ?_
    refine G_nil ?_
    refine G_then ?_
    refine G_cond (t := (p_r.What == 3)) (by kernel_rfl) (fun _ => ?_) (fun _ => ?_)
    ·refine G_seq ?_
     refine G_region ?_
     refine G_op [0] (v := (.box [1001] 5)) (E_p (by kernel_rfl)) rfl rfl ?_
     refine G_op [0] (v := (ii p_r.Qty)) (E_load (by kernel_rfl)) rfl rfl ?_
     refine G_op [0] (v := (bb ((decide (p_r.Qty ≥ 1))))) (E_p (by kernel_rfl)) rfl rfl ?_
     refine G_op [0] (v := (bb ((decide (p_r.Qty ≥ 1))))) (E_p (by kernel_rfl)) rfl rfl ?_
     refine G_pure (l := t79_1) (st := ⟨⟨46, [(28, (bb (((decide (p_r.Qty ≥ 1)) && (p_r.Price == 0))))), (2, (bb false))]⟩, mkH []⟩) ?_ (fun r9 => ?_)
     ·refine G_op [0] (v := (bb (((decide (p_r.Qty ≥ 1)) && (p_r.Price == 0))))) (E_p (by kernel_rfl)) rfl rfl ?_
      refine G_nil ?_
      refine G_then ?_
      refine G_ret ?_
      refine G_inBR ?_
      refine G_thenR ?_
      refine G_retR ?_
      refine q_some fun hA => ?_
      show outV _ _ = some _
      kernel_rfl
     ·refine q_two (decide (p_r.Qty ≥ 1)) (fun h7 => ?_) (fun h7 => ?_)
      ·refine G_subR (Sub_lit (t := 24) (v := true) rfl h7) ?_
       refine G_op [0] (v := (.box [1001] 6)) (E_p (by kernel_rfl)) rfl rfl ?_
       refine G_op [0] (v := (ii p_r.Price)) (E_load (by kernel_rfl)) rfl rfl ?_
       refine G_op [0] (v := (bb ((p_r.Price == 0)))) (E_p (by kernel_rfl)) rfl rfl ?_
       refine G_op [0] (v := (bb ((p_r.Price == 0)))) (E_p (by kernel_rfl)) rfl rfl ?_
       exact q_some fun h => RP_sub (by exact Sub_keep ⟨(Wk_and1 h7), .refl _, trivial⟩ trivial (by kernel_rfl) (by kernel_rfl)) h
      ·refine G_subR (Sub_lit (t := 24) (v := false) rfl h7) ?_
       refine G_off rfl rfl ?_
       refine G_off rfl rfl ?_
       refine G_off rfl rfl ?_
       refine G_op [0] (v := (bb false)) (E_p (by kernel_rfl)) rfl rfl ?_
       exact q_some fun h => RP_sub (by exact Sub_keep ⟨(Wk_and0 h7), .refl _, trivial⟩ trivial (by kernel_rfl) (by kernel_rfl)) h
    ·refine G_seq ?_
     refine G_region ?_
     refine G_op [0] (v := (bb ((p_r.What == 5)))) (E_p (by kernel_rfl)) rfl rfl ?_
     refine G_op [0] (v := (bb ((p_r.What == 5)))) (E_p (by kernel_rfl)) rfl rfl ?_
     refine G_nil ?_
     refine G_then ?_
     refine G_cond (t := (p_r.What == 5)) (by kernel_rfl) (fun _ => ?_) (fun _ => ?_)
     ·refine G_seq ?_
      refine G_region ?_
      refine G_op [0] (v := (.agg (lRecT p_r))) (E_load (by kernel_rfl)) rfl rfl ?_
      refine q_bind fun v10 hv10 => ?_
      refine G_op [0] (v := (bb v10)) (E_call (ds := [.agg (e_RecT p_r)]) (r := .bool v10) hc78 (by kernel_rfl) ((hs78 p_r _ (by kernel_rfl)).trans (congrArg _ hv10))) rfl rfl ?_
      refine G_op [0] (v := (bb v10)) (E_p (by kernel_rfl)) rfl rfl ?_
      refine G_nil ?_
      refine G_then ?_
      refine G_subW (s0 := ⟨⟨46, [(2, (bb v10))]⟩, mkH []⟩) (by exact Sub_keep ⟨.refl _, trivial⟩ trivial (by kernel_rfl) (by kernel_rfl)) ?_
      refine G_ret ?_
      refine G_inBR ?_
      refine G_thenR ?_
      refine G_retR ?_
      refine q_some fun hA => ?_
      show outV _ _ = some _
      kernel_rfl
     ·refine G_seq ?_
      refine G_seq ?_
      refine G_region ?_
      refine G_op [0] (v := (bb ((p_r.What == 1)))) (E_p (by kernel_rfl)) rfl rfl ?_
      refine G_op [0] (v := (bb ((p_r.What == 1)))) (E_p (by kernel_rfl)) rfl rfl ?_
      refine G_nil ?_
      refine G_then ?_
      refine G_join (st := fun j11 => ⟨⟨46, [(33, (bb j11)), (2, (bb false)), (1, (.box [1001] 0))]⟩, mkH [([1001], (.box (lRecT p_r)))]⟩) (fun j11 => ?_) (fun r12 hr12 => ?_)
      ·refine G_then ?_
       refine G_cond (t := j11) (by kernel_rfl) (fun _ => ?_) (fun _ => ?_)
       ·refine G_seq ?_
        refine G_region ?_
        refine G_op [0] (v := (.box [1001] 5)) (E_p (by kernel_rfl)) rfl rfl ?_
        refine G_op [0] (v := (ii p_r.Qty)) (E_load (by kernel_rfl)) rfl rfl ?_
        refine G_op [0] (v := (bb ((p_r.Qty == 0)))) (E_p (by kernel_rfl)) rfl rfl ?_
        refine G_op [0] (v := (bb ((p_r.Qty == 0)))) (E_p (by kernel_rfl)) rfl rfl ?_
        refine G_pure (l := t79_2) (st := ⟨⟨46, [(45, (bb (((p_r.Qty == 0) && (p_r.Price == 0))))), (2, (bb false))]⟩, mkH []⟩) ?_ (fun r19 => ?_)
        ·refine G_op [0] (v := (bb (((p_r.Qty == 0) && (p_r.Price == 0))))) (E_p (by kernel_rfl)) rfl rfl ?_
         refine G_nil ?_
         refine G_then ?_
         refine G_ret ?_
         refine G_inBR ?_
         refine G_thenR ?_
         refine G_retR ?_
         refine q_some fun hA => ?_
         show outV _ _ = some _
         kernel_rfl
        ·refine q_two (p_r.Qty == 0) (fun h17 => ?_) (fun h17 => ?_)
         ·refine G_subR (Sub_lit (t := 41) (v := true) rfl h17) ?_
          refine G_op [0] (v := (.box [1001] 6)) (E_p (by kernel_rfl)) rfl rfl ?_
          refine G_op [0] (v := (ii p_r.Price)) (E_load (by kernel_rfl)) rfl rfl ?_
          refine G_op [0] (v := (bb ((p_r.Price == 0)))) (E_p (by kernel_rfl)) rfl rfl ?_
          refine G_op [0] (v := (bb ((p_r.Price == 0)))) (E_p (by kernel_rfl)) rfl rfl ?_
          exact q_some fun h => RP_sub (by exact Sub_keep ⟨(Wk_and1 h17), .refl _, trivial⟩ trivial (by kernel_rfl) (by kernel_rfl)) h
         ·refine G_subR (Sub_lit (t := 41) (v := false) rfl h17) ?_
          refine G_off rfl rfl ?_
          refine G_off rfl rfl ?_
          refine G_off rfl rfl ?_
          refine G_op [0] (v := (bb false)) (E_p (by kernel_rfl)) rfl rfl ?_
          exact q_some fun h => RP_sub (by exact Sub_keep ⟨(Wk_and0 h17), .refl _, trivial⟩ trivial (by kernel_rfl) (by kernel_rfl)) h
       ·refine G_skip ?_
        refine G_inB ?_
        refine G_then ?_
        refine G_seq ?_
        refine G_region ?_
        refine G_op [0] (v := (bb false)) (E_p (by kernel_rfl)) rfl rfl ?_
        refine G_nil ?_
        refine G_then ?_
        refine G_ret ?_
        refine G_retR ?_
        refine q_some fun hA => ?_
        show outV _ _ = some _
        kernel_rfl
      ·refine G_cond (t := (p_r.What == 1)) (by kernel_rfl) (fun _ => ?_) (fun _ => ?_)
       ·refine G_skip ?_
        exact q_some fun h => (QN_then : QN _ _) _ _ (by exact Sub_env ⟨.refl _, .refl _, .refl _, trivial⟩) h
       ·refine G_seq ?_
        refine G_region ?_
        refine G_op [0] (v := (bb ((p_r.What == 2)))) (E_p (by kernel_rfl)) rfl rfl ?_
        refine G_op [0] (v := (bb ((p_r.What == 2)))) (E_p (by kernel_rfl)) rfl rfl ?_
        refine G_nil ?_
        refine G_then ?_
        refine G_join (st := fun j13 => ⟨⟨46, [(33, (bb j13)), (2, (bb false)), (1, (.box [1001] 0))]⟩, mkH [([1001], (.box (lRecT p_r)))]⟩) (fun j13 => ?_) (fun r14 hr14 => ?_)
        ·exact q_some fun h => (QN_then : QN _ _) _ _ (by exact Sub_env ⟨.refl _, .refl _, .refl _, trivial⟩) h
        ·refine G_cond (t := (p_r.What == 2)) (by kernel_rfl) (fun _ => ?_) (fun _ => ?_)
         ·refine G_skip ?_
          exact q_some fun h => (QN_then : QN _ _) _ _ (by exact Sub_env ⟨.refl _, .refl _, .refl _, trivial⟩) h
         ·refine G_seq ?_
          refine G_region ?_
          refine G_op [0] (v := (bb ((p_r.What == 4)))) (E_p (by kernel_rfl)) rfl rfl ?_
          refine G_op [0] (v := (bb ((p_r.What == 4)))) (E_p (by kernel_rfl)) rfl rfl ?_
          refine G_nil ?_
          refine G_then ?_
          refine G_subW (s0 := ⟨⟨46, [(33, (bb ((p_r.What == 4)))), (18, (ii p_r.What)), (2, (bb false)), (1, (.box [1001] 0))]⟩, mkH [([1001], (.box (lRecT p_r)))]⟩) (by exact Sub_env ⟨.refl _, .refl _, .refl _, .refl _, trivial⟩) ?_
          refine G_join (st := fun j15 => ⟨⟨46, [(33, (bb j15)), (2, (bb false)), (1, (.box [1001] 0))]⟩, mkH [([1001], (.box (lRecT p_r)))]⟩) (fun j15 => ?_) (fun r16 hr16 => ?_)
          ·exact q_some fun h => (QN_then : QN _ _) _ _ (by exact Sub_env ⟨.refl _, .refl _, .refl _, trivial⟩) h
          ·refine G_cond (t := (p_r.What == 4)) (by kernel_rfl) (fun _ => ?_) (fun _ => ?_)
           ·refine G_skip ?_
            exact q_some fun h => (QN_then : QN _ _) _ _ (by exact Sub_env ⟨.refl _, .refl _, .refl _, trivial⟩) h
           ·refine G_region ?_
            refine G_op [0] (v := (bb ((p_r.What == 6)))) (E_p (by kernel_rfl)) rfl rfl ?_
            refine G_op [0] (v := (bb ((p_r.What == 6)))) (E_p (by kernel_rfl)) rfl rfl ?_
            refine G_nil ?_
            exact q_some fun h => (QN_then : QN _ _) _ _ (by exact Sub_env ⟨.refl _, .refl _, .refl _, trivial⟩) h
  ·refine q_bif (fun h4 => ?_) (fun h4 => ?_)
   ·refine G_subR (Sub_lit (t := 11) (v := true) rfl h4) ?_
    refine G_off rfl rfl ?_
    refine G_off rfl rfl ?_
    refine G_off rfl rfl ?_
    refine G_off rfl rfl ?_
    refine G_op [0] (v := (bb true)) (E_p (by kernel_rfl)) rfl rfl ?_
    exact q_some fun h => RP_sub (by exact Sub_env ⟨.refl _, .refl _, .refl _, trivial⟩) h
   ·refine G_subR (Sub_lit (t := 11) (v := false) rfl h4) ?_
    refine G_op [0] (v := (.box [1001] 1)) (E_p (by kernel_rfl)) rfl rfl ?_
    refine G_op [0] (v := (ii p_r.Order)) (E_load (by kernel_rfl)) rfl rfl ?_
    refine q_bind fun v20 hv20 => ?_
    refine G_op [0] (v := (bb v20)) (E_call (ds := [.int .i64 p_r.Order]) (r := .bool v20) hc76 (by kernel_rfl) ((hs76 p_r.Order _ (by kernel_rfl)).trans (congrArg _ hv20))) rfl rfl ?_
    refine G_op [0] (v := (bb ((!v20)))) (E_p (by kernel_rfl)) rfl rfl ?_
    refine G_op [0] (v := (bb ((!v20)))) (E_p (by kernel_rfl)) rfl rfl ?_
    exact q_some fun h => RP_sub (by exact Sub_env ⟨.refl _, .refl _, .refl _, trivial⟩) h
 ·refine q_two (decide (p_r.Seq < 1)) (fun h1 => ?_) (fun h1 => ?_)
  ·refine G_subR (Sub_lit (t := 6) (v := true) rfl h1) ?_
   refine G_off rfl rfl ?_
   refine G_off rfl rfl ?_
   refine G_off rfl rfl ?_
   refine G_op [0] (v := (bb true)) (E_p (by kernel_rfl)) rfl rfl ?_
   exact q_some fun h => RP_sub (by exact Sub_env ⟨(Wk_or1 h1), .refl _, .refl _, trivial⟩) h
  ·refine G_subR (Sub_lit (t := 6) (v := false) rfl h1) ?_
   refine G_op [0] (v := (.box [1001] 11)) (E_p (by kernel_rfl)) rfl rfl ?_
   refine G_op [0] (v := (ii p_r.Seq)) (E_load (by kernel_rfl)) rfl rfl ?_
   refine G_op [0] (v := (bb ((decide (p_r.Seq > 1000000000))))) (E_p (by kernel_rfl)) rfl rfl ?_
   refine G_op [0] (v := (bb ((decide (p_r.Seq > 1000000000))))) (E_p (by kernel_rfl)) rfl rfl ?_
   exact q_some fun h => RP_sub (by exact Sub_env ⟨(Wk_or0 h1), .refl _, .refl _, trivial⟩) h
theorem s79 (x0 : RecT) (ds : List DV) (hd : List.map z1 ds = List.map z1 [.agg (e_RecT x0)]) : sp79 ds = (g_rec_event x0).map fun r => .bool r :=
 specT_at (ea := fun (a : RecT) => [.agg (e_RecT a)]) (eb := fun (r : Bool) => .bool r) (g := fun (a : RecT) => g_rec_event a) inj79 x0 hd

def t52_4 : List AIns := (⟨(some 2), (.p (.mv (.t 38))), none⟩ :: [])
def t52_5 : List AIns := (⟨(some 2), (.p (.mv (.t 47))), none⟩ :: [])
def t52_7 : List AIns := (⟨(some 3), (.p (.mv (.t 67))), none⟩ :: [])
def t52_10 : List AIns := (⟨(some 2), (.p (.mv (.t 88))), none⟩ :: [])
def t52_3 : List AIns := (⟨(some 35), (.p (.mv (.t 34))), none⟩ :: ⟨(some 36), (.r (.load 13 true (.t 1))), (some (35, true))⟩ :: ⟨(some 37), (.r (.call 78 [(.t 36)])), (some (35, true))⟩ :: ⟨(some 38), (.p (.pick (.t 35) (.t 37) (.c (.bool false)))), none⟩ :: t52_4)
def t52_2 : List AIns := (⟨(some 34), (.p (.pick (.t 25) (.t 33) (.c (.bool false)))), none⟩ :: t52_3)
def t52_6 : List AIns := (⟨(some 63), (.p (.mv (.t 62))), none⟩ :: ⟨(some 64), (.p (.foff 8 (.t 1))), (some (63, true))⟩ :: ⟨(some 65), (.r (.load 1 false (.t 64))), (some (63, true))⟩ :: ⟨(some 66), (.p (.bin .eql (.t 65) (.c (.int .i64 0)))), (some (63, true))⟩ :: ⟨(some 67), (.p (.pick (.t 63) (.t 66) (.c (.bool false)))), none⟩ :: t52_7)
def t52_9 : List AIns := (⟨(some 79), (.p (.mv (.t 78))), none⟩ :: ⟨(some 80), (.p (.foff 7 (.t 1))), (some (79, true))⟩ :: ⟨(some 81), (.r (.load 1 false (.t 80))), (some (79, true))⟩ :: ⟨(some 82), (.p (.foff 8 (.t 1))), (some (79, true))⟩ :: ⟨(some 83), (.r (.load 1 false (.t 82))), (some (79, true))⟩ :: ⟨(some 84), (.p (.foff 9 (.t 1))), (some (79, true))⟩ :: ⟨(some 85), (.r (.load 1 false (.t 84))), (some (79, true))⟩ :: ⟨(some 86), (.p (.mnx false (.t 81) [(.t 83), (.t 85)])), (some (79, true))⟩ :: ⟨(some 87), (.p (.bin .geq (.t 86) (.c (.int .i64 0)))), (some (79, true))⟩ :: ⟨(some 88), (.p (.pick (.t 79) (.t 87) (.c (.bool false)))), none⟩ :: t52_10)
def t52_8 : List AIns := (⟨(some 78), (.p (.pick (.t 71) (.t 77) (.c (.bool false)))), none⟩ :: t52_9)
def t52_1 : List AIns := (⟨(some 25), (.p (.mv (.t 24))), none⟩ :: ⟨(some 26), (.p (.foff 4 (.t 1))), (some (25, true))⟩ :: ⟨(some 27), (.r (.load 1 false (.t 26))), (some (25, true))⟩ :: ⟨(some 28), (.p (.bin .eql (.t 27) (.c (.int .i64 1)))), (some (25, true))⟩ :: ⟨(some 29), (.p (.mv (.t 28))), (some (25, true))⟩ :: ⟨(some 30), (.p (.foff 4 (.t 1))), (some (29, false))⟩ :: ⟨(some 31), (.r (.load 1 false (.t 30))), (some (29, false))⟩ :: ⟨(some 32), (.p (.bin .eql (.t 31) (.c (.int .i64 2)))), (some (29, false))⟩ :: ⟨(some 33), (.p (.pick (.t 29) (.c (.bool true)) (.t 32))), (some (25, true))⟩ :: t52_2)
def t52_0 : List AIns := (⟨(some 20), (.p (.mv (.t 19))), none⟩ :: ⟨(some 21), (.p (.foff 3 (.t 1))), (some (20, true))⟩ :: ⟨(some 22), (.r (.load 1 false (.t 21))), (some (20, true))⟩ :: ⟨(some 23), (.r (.call 77 [(.t 22), (.c (.int .i64 8))])), (some (20, true))⟩ :: ⟨(some 24), (.p (.pick (.t 20) (.t 23) (.c (.bool false)))), none⟩ :: t52_1)
def k52_0 : ACode := (.draw (⟨(some 4), (.r (.load 13 true (.t 1))), none⟩ :: ⟨(some 5), (.r (.load 13 true (.t 1))), none⟩ :: ⟨(some 6), (.r (.call 75 [(.t 5)])), none⟩ :: ⟨(some 7), (.p (.eqs [1, 1, 1, 1, 1, 1, 1, 1, 1, 1, 0, 1, 1] true (.t 4) (.t 6))), none⟩ :: []))
def k52_1 : ACode := (.seq k52_0 (.cond (.t 7) (.seq (.region (⟨(some 2), (.p (.mv (.c (.bool false)))), none⟩ :: [])) .ret) .skip))
def k52_2 : ACode := (.region (⟨(some 12), (.p (.foff 1 (.t 1))), none⟩ :: ⟨(some 13), (.r (.load 1 false (.t 12))), none⟩ :: ⟨(some 14), (.r (.call 76 [(.t 13)])), none⟩ :: ⟨(some 15), (.p (.mv (.t 14))), none⟩ :: ⟨(some 16), (.p (.foff 2 (.t 1))), (some (15, true))⟩ :: ⟨(some 17), (.r (.load 1 false (.t 16))), (some (15, true))⟩ :: ⟨(some 18), (.r (.call 77 [(.t 17), (.c (.int .i64 8))])), (some (15, true))⟩ :: ⟨(some 19), (.p (.pick (.t 15) (.t 18) (.c (.bool false)))), none⟩ :: t52_0))
def k52_3 : ACode := (.seq k52_2 .ret)
def k52_4 : ACode := (.region (⟨(some 41), (.p (.foff 1 (.t 1))), none⟩ :: ⟨(some 42), (.r (.load 1 false (.t 41))), none⟩ :: ⟨(some 43), (.r (.call 76 [(.t 42)])), none⟩ :: ⟨(some 44), (.p (.mv (.t 43))), none⟩ :: ⟨(some 45), (.r (.load 13 true (.t 1))), (some (44, true))⟩ :: ⟨(some 46), (.r (.call 78 [(.t 45)])), (some (44, true))⟩ :: ⟨(some 47), (.p (.pick (.t 44) (.t 46) (.c (.bool false)))), none⟩ :: t52_5))
def k52_5 : ACode := (.seq k52_4 .ret)
def k52_6 : ACode := (.region (⟨(some 50), (.p (.foff 1 (.t 1))), none⟩ :: ⟨(some 51), (.r (.load 1 false (.t 50))), none⟩ :: ⟨(some 52), (.r (.call 76 [(.t 51)])), none⟩ :: ⟨(some 2), (.p (.mv (.t 52))), none⟩ :: []))
def k52_7 : ACode := (.seq k52_6 .ret)
def k52_8 : ACode := (.region (⟨(some 55), (.p (.foff 3 (.t 1))), none⟩ :: ⟨(some 56), (.r (.load 1 false (.t 55))), none⟩ :: ⟨(some 57), (.p (.bin .eql (.t 56) (.c (.int .i64 (-1))))), none⟩ :: ⟨(some 58), (.p (.mv (.t 57))), none⟩ :: ⟨(some 59), (.p (.foff 7 (.t 1))), (some (58, true))⟩ :: ⟨(some 60), (.r (.load 1 false (.t 59))), (some (58, true))⟩ :: ⟨(some 61), (.p (.bin .eql (.t 60) (.c (.int .i64 0)))), (some (58, true))⟩ :: ⟨(some 62), (.p (.pick (.t 58) (.t 61) (.c (.bool false)))), none⟩ :: t52_6))
def k52_9 : ACode := (.region (⟨(some 68), (.p (.foff 2 (.t 1))), none⟩ :: ⟨(some 69), (.r (.load 1 false (.t 68))), none⟩ :: ⟨(some 70), (.r (.call 77 [(.t 69), (.c (.int .i64 8))])), none⟩ :: ⟨(some 71), (.p (.mv (.t 70))), none⟩ :: ⟨(some 72), (.p (.mv (.t 3))), (some (71, true))⟩ :: ⟨(some 73), (.p (.mv (.t 72))), (some (71, true))⟩ :: ⟨(some 74), (.p (.foff 3 (.t 1))), (some (73, false))⟩ :: ⟨(some 75), (.r (.load 1 false (.t 74))), (some (73, false))⟩ :: ⟨(some 76), (.r (.call 77 [(.t 75), (.c (.int .i64 8))])), (some (73, false))⟩ :: ⟨(some 77), (.p (.pick (.t 73) (.c (.bool true)) (.t 76))), (some (71, true))⟩ :: t52_8))
def k52_10 : ACode := (.seq k52_9 .ret)
def k52_11 : ACode := (.seq k52_8 k52_10)
def k52_12 : ACode := (.seq (.region (⟨(some 93), (.r (.load 13 true (.t 1))), none⟩ :: ⟨(some 94), (.r (.call 79 [(.t 93)])), none⟩ :: ⟨(some 2), (.p (.mv (.t 94))), none⟩ :: [])) .ret)
def k52_13 : ACode := (.cond (.t 91) k52_12 .skip)
def k52_14 : ACode := (.seq (.region (⟨(some 92), (.p (.bin .eql (.t 9) (.c (.int .i64 6)))), none⟩ :: ⟨(some 91), (.p (.mv (.t 92))), none⟩ :: [])) k52_13)
def k52_15 : ACode := (.cond (.t 89) (.seq (.region (⟨(some 2), (.p (.mv (.c (.bool true)))), none⟩ :: [])) .ret) k52_14)
def k52_16 : ACode := (.seq (.region (⟨(some 90), (.p (.bin .eql (.t 9) (.c (.int .i64 5)))), none⟩ :: ⟨(some 89), (.p (.mv (.t 90))), none⟩ :: [])) k52_15)
def k52_17 : ACode := (.cond (.t 53) k52_11 k52_16)
def k52_18 : ACode := (.seq (.region (⟨(some 54), (.p (.bin .eql (.t 9) (.c (.int .i64 4)))), none⟩ :: ⟨(some 53), (.p (.mv (.t 54))), none⟩ :: [])) k52_17)
def k52_19 : ACode := (.cond (.t 48) k52_7 k52_18)
def k52_20 : ACode := (.seq (.region (⟨(some 49), (.p (.bin .eql (.t 9) (.c (.int .i64 3)))), none⟩ :: ⟨(some 48), (.p (.mv (.t 49))), none⟩ :: [])) k52_19)
def k52_21 : ACode := (.cond (.t 39) k52_5 k52_20)
def k52_22 : ACode := (.seq (.region (⟨(some 40), (.p (.bin .eql (.t 9) (.c (.int .i64 2)))), none⟩ :: ⟨(some 39), (.p (.mv (.t 40))), none⟩ :: [])) k52_21)
def k52_23 : ACode := (.cond (.t 10) k52_3 k52_22)
def k52_24 : ACode := (.seq (.region (⟨(some 11), (.p (.bin .eql (.t 9) (.c (.int .i64 1)))), none⟩ :: ⟨(some 10), (.p (.mv (.t 11))), none⟩ :: [])) k52_23)
def k52_25 : ACode := (.block 0 k52_24)
def k52_26 : ACode := (.seq (.region (⟨(some 8), (.p (.foff 0 (.t 1))), none⟩ :: ⟨(some 9), (.r (.load 1 false (.t 8))), none⟩ :: [])) k52_25)
def k52_27 : ACode := (.seq k52_26 (.seq (.region (⟨(some 2), (.p (.mv (.c (.bool false)))), none⟩ :: [])) .ret))
def k52_28 : ACode := (.seq k52_1 k52_27)
def cd52 : ACode := (.seq (.region (⟨(some 1), (.a (.bx (.t 0))), none⟩ :: ⟨(some 2), (.p (.mv (.c (.bool false)))), none⟩ :: [])) k52_28)
def rs52 : List ARes := [(.tmp 2)]
def af52 : AFn := ⟨cd52, rs52, 95⟩
theorem c52 : compF Try.prog 52 = some af52 := by kernel_rfl
noncomputable def g_rec_Right (p_r : RecT) : Option Bool := (Option.bind (g_rec_fields p_r) fun v1 => (bif (!((p_r.Kind == v1.Kind) && ((p_r.Order == v1.Order) && ((p_r.Account == v1.Account) && ((p_r.Symbol == v1.Symbol) && ((p_r.Side == v1.Side) && ((p_r.Qty == v1.Qty) && ((p_r.Price == v1.Price) && ((p_r.Long == v1.Long) && ((p_r.Short == v1.Short) && ((p_r.Open == v1.Open) && ((p_r.On == v1.On) && ((p_r.Seq == v1.Seq) && ((p_r.What == v1.What) && true)))))))))))))) then (some false) else (bif (p_r.Kind == 1) then (Option.bind (g_rec_known p_r.Order) fun v2 => (Option.bind (bif v2 then (Option.bind (g_rec_below p_r.Account 8) fun v20 => (some v20)) else (some false)) fun (b4 : Bool) => (Option.bind (bif b4 then (Option.bind (g_rec_below p_r.Symbol 8) fun v19 => (some v19)) else (some false)) fun (b7 : Bool) => (Option.bind (bif (b7 && ((p_r.Side == 1) || (p_r.Side == 2))) then (Option.bind (g_rec_sized p_r) fun v15 => (some v15)) else (some false)) fun (b13 : Bool) => (some b13))))) else (bif (p_r.Kind == 2) then (Option.bind (g_rec_known p_r.Order) fun v21 => (Option.bind (bif v21 then (Option.bind (g_rec_sized p_r) fun v25 => (some v25)) else (some false)) fun (b23 : Bool) => (some b23))) else (bif (p_r.Kind == 3) then (Option.bind (g_rec_known p_r.Order) fun v26 => (some v26)) else (bif (p_r.Kind == 4) then (Option.bind (g_rec_below p_r.Account 8) fun v33 => (Option.bind (bif v33 then (Option.bind (bif (((p_r.Symbol == (-1)) && (p_r.Long == 0)) && (p_r.Short == 0)) then (some true) else (Option.bind (g_rec_below p_r.Symbol 8) fun v43 => (some v43))) fun (b41 : Bool) => (some b41)) else (some false)) fun (b35 : Bool) => (some (b35 && (decide ((if p_r.Open < (if p_r.Short < p_r.Long then p_r.Short else p_r.Long) then p_r.Open else (if p_r.Short < p_r.Long then p_r.Short else p_r.Long)) ≥ 0)))))) else (bif (p_r.Kind == 5) then (some true) else (bif (p_r.Kind == 6) then (Option.bind (g_rec_event p_r) fun v44 => (some v44)) else (some false)))))))))
noncomputable def sp52 : List DV → Option DV := specT (fun (a : RecT) => [.agg (e_RecT a)]) (fun (r : Bool) => .bool r) (fun (a : RecT) => g_rec_Right a)
theorem inj52 : ∀ (a b : RecT), List.map z1 ((fun (a : RecT) => [.agg (e_RecT a)]) a) = List.map z1 ((fun (a : RecT) => [.agg (e_RecT a)]) b) → a = b := by
 intro a0 b0 h
 simp only [List.map_cons, List.map_nil, List.cons.injEq, and_true] at h
 exact (e_RecT_inj (DV.agg.inj h))
set_option maxHeartbeats 1000000 in
theorem w52 {C : FuncId → Con} (hC : ConOk Try.prog C) {q75 : List DV → Option DV} (hc75 : C 75 = .val q75) (hs75 : ∀ (x0 : RecT) (ds : List DV), List.map z1 ds = List.map z1 [.agg (e_RecT x0)] → q75 ds = (g_rec_fields x0).map fun r => .agg (e_RecT r)) {q76 : List DV → Option DV} (hc76 : C 76 = .val q76) (hs76 : ∀ (x0 : Int) (ds : List DV), List.map z1 ds = List.map z1 [.int .i64 x0] → q76 ds = (g_rec_known x0).map fun r => .bool r) {q77 : List DV → Option DV} (hc77 : C 77 = .val q77) (hs77 : ∀ (x0 : Int) (x1 : Int) (ds : List DV), List.map z1 ds = List.map z1 [.int .i64 x0, .int .i64 x1] → q77 ds = (g_rec_below x0 x1).map fun r => .bool r) {q78 : List DV → Option DV} (hc78 : C 78 = .val q78) (hs78 : ∀ (x0 : RecT) (ds : List DV), List.map z1 ds = List.map z1 [.agg (e_RecT x0)] → q78 ds = (g_rec_sized x0).map fun r => .bool r) {q79 : List DV → Option DV} (hc79 : C 79 = .val q79) (hs79 : ∀ (x0 : RecT) (ds : List DV), List.map z1 ds = List.map z1 [.agg (e_RecT x0)] → q79 ds = (g_rec_event x0).map fun r => .bool r) : ValOk Try.prog 52 sp52 := by
 refine valT_of hC c52 _ _ _ inj52 ?_
 intro p_r
 show Imq (g_rec_Right p_r) (fun _ => True) fun r => WP Try.prog C (fun _ => False) cd52 (retQ fun s => outV s rs52 = some (.bool r)) ⟨⟨95, [(0, (.val (.agg [(.int .i64 p_r.Kind), (.int .i64 p_r.Order), (.int .i64 p_r.Account), (.int .i64 p_r.Symbol), (.int .i64 p_r.Side), (.int .i64 p_r.Qty), (.int .i64 p_r.Price), (.int .i64 p_r.Long), (.int .i64 p_r.Short), (.int .i64 p_r.Open), (.bool p_r.On), (.int .i64 p_r.Seq), (.int .i64 p_r.What)])))]⟩, mkH []⟩
 unfold g_rec_Right
 refine G_seq ?_
 refine G_region ?_
 refine G_op [1001] (v := (.box [1001] 0)) (E_a (u := (.box [1001] 0)) (b := (.box (lRecT p_r))) (h' := [([1001], (.box (lRecT p_r)))]) (by kernel_rfl) (by kernel_rfl) (by kernel_rfl)) rfl rfl ?_
 refine G_op [0] (v := (bb false)) (E_p (by kernel_rfl)) rfl rfl ?_
 refine G_nil ?_
 refine G_then ?_
 refine G_seq ?_
 refine G_seq ?_
 refine G_draw ?_
 refine X_op (w := (.agg (lRecT p_r))) (v := (.agg (lRecT p_r))) (E_load (by kernel_rfl)) rfl rfl rfl ?_
 refine X_op (w := (.agg (lRecT p_r))) (v := (.agg (lRecT p_r))) (E_load (by kernel_rfl)) rfl rfl rfl ?_
 refine q_bind fun v1 hv1 => ?_
 refine X_op (w := (.val (.agg [(.int .i64 v1.Kind), (.int .i64 v1.Order), (.int .i64 v1.Account), (.int .i64 v1.Symbol), (.int .i64 v1.Side), (.int .i64 v1.Qty), (.int .i64 v1.Price), (.int .i64 v1.Long), (.int .i64 v1.Short), (.int .i64 v1.Open), (.bool v1.On), (.int .i64 v1.Seq), (.int .i64 v1.What)]))) (v := (.val (.agg [(.int .i64 v1.Kind), (.int .i64 v1.Order), (.int .i64 v1.Account), (.int .i64 v1.Symbol), (.int .i64 v1.Side), (.int .i64 v1.Qty), (.int .i64 v1.Price), (.int .i64 v1.Long), (.int .i64 v1.Short), (.int .i64 v1.Open), (.bool v1.On), (.int .i64 v1.Seq), (.int .i64 v1.What)]))) (E_callX (ds := [.agg (e_RecT p_r)]) (ids := []) (r := .agg (e_RecT v1)) hc75 (by kernel_rfl) ((hs75 p_r _ (by kernel_rfl)).trans (congrArg _ hv1)) (by kernel_rfl)) rfl rfl rfl ?_
 refine X_op (w := (bb ((!((p_r.Kind == v1.Kind) && ((p_r.Order == v1.Order) && ((p_r.Account == v1.Account) && ((p_r.Symbol == v1.Symbol) && ((p_r.Side == v1.Side) && ((p_r.Qty == v1.Qty) && ((p_r.Price == v1.Price) && ((p_r.Long == v1.Long) && ((p_r.Short == v1.Short) && ((p_r.Open == v1.Open) && ((p_r.On == v1.On) && ((p_r.Seq == v1.Seq) && ((p_r.What == v1.What) && true))))))))))))))))) (v := (bb ((!((p_r.Kind == v1.Kind) && ((p_r.Order == v1.Order) && ((p_r.Account == v1.Account) && ((p_r.Symbol == v1.Symbol) && ((p_r.Side == v1.Side) && ((p_r.Qty == v1.Qty) && ((p_r.Price == v1.Price) && ((p_r.Long == v1.Long) && ((p_r.Short == v1.Short) && ((p_r.Open == v1.Open) && ((p_r.On == v1.On) && ((p_r.Seq == v1.Seq) && ((p_r.What == v1.What) && true))))))))))))))))) (E_p (by kernel_rfl)) rfl rfl rfl ?_
 refine X_nil (m := [(7, (bb ((!((p_r.Kind == v1.Kind) && ((p_r.Order == v1.Order) && ((p_r.Account == v1.Account) && ((p_r.Symbol == v1.Symbol) && ((p_r.Side == v1.Side) && ((p_r.Qty == v1.Qty) && ((p_r.Price == v1.Price) && ((p_r.Long == v1.Long) && ((p_r.Short == v1.Short) && ((p_r.Open == v1.Open) && ((p_r.On == v1.On) && ((p_r.Seq == v1.Seq) && ((p_r.What == v1.What) && true))))))))))))))))), (2, (bb false)), (1, (.box [1001] 0))]) (by exact ⟨rfl, rfl, rfl, trivial⟩) ?_
 refine G_then ?_
 refine G_cond (t := (!((p_r.Kind == v1.Kind) && ((p_r.Order == v1.Order) && ((p_r.Account == v1.Account) && ((p_r.Symbol == v1.Symbol) && ((p_r.Side == v1.Side) && ((p_r.Qty == v1.Qty) && ((p_r.Price == v1.Price) && ((p_r.Long == v1.Long) && ((p_r.Short == v1.Short) && ((p_r.Open == v1.Open) && ((p_r.On == v1.On) && ((p_r.Seq == v1.Seq) && ((p_r.What == v1.What) && true))))))))))))))) (by kernel_rfl) (fun _ => ?_) (fun _ => ?_)
 ·refine G_seq ?_
  refine G_region ?_
  refine G_op [0] (v := (bb false)) (E_p (by kernel_rfl)) rfl rfl ?_
  refine G_nil ?_
  refine G_then ?_
  refine G_ret ?_
  refine G_thenR ?_
  refine G_retR ?_
  refine q_some fun hA => ?_
  show outV _ _ = some _
  kernel_rfl
 ·refine G_skip ?_
  refine G_then ?_
  refine G_seq ?_
  refine G_seq ?_
  refine G_region ?_
  refine G_op [0] (v := (.box [1001] 0)) (E_p (by kernel_rfl)) rfl rfl ?_
  refine G_op [0] (v := (ii p_r.Kind)) (E_load (by kernel_rfl)) rfl rfl ?_
  refine G_nil ?_
  refine G_then ?_
  refine G_block ?_
  refine G_seq ?_
  refine G_region ?_
  refine G_op [0] (v := (bb ((p_r.Kind == 1)))) (E_p (by kernel_rfl)) rfl rfl ?_
  refine G_op [0] (v := (bb ((p_r.Kind == 1)))) (E_p (by kernel_rfl)) rfl rfl ?_
  refine G_nil ?_
  refine G_then ?_
  refine G_cond (t := (p_r.Kind == 1)) (by kernel_rfl) (fun _ => ?_) (fun _ => ?_)
  ·refine G_seq ?_
   refine G_region ?_
   refine G_op [0] (v := (.box [1001] 1)) (E_p (by kernel_rfl)) rfl rfl ?_
   refine G_op [0] (v := (ii p_r.Order)) (E_load (by kernel_rfl)) rfl rfl ?_
   refine q_bind fun v2 hv2 => ?_
   refine G_op [0] (v := (bb v2)) (E_call (ds := [.int .i64 p_r.Order]) (r := .bool v2) hc76 (by kernel_rfl) ((hs76 p_r.Order _ (by kernel_rfl)).trans (congrArg _ hv2))) rfl rfl ?_
   refine G_op [0] (v := (bb v2)) (E_p (by kernel_rfl)) rfl rfl ?_
   refine G_joinR (l := t52_0) (st := fun (b4 : Bool) => ⟨⟨95, [(19, (bb b4)), (2, (bb false)), (1, (.box [1001] 0))]⟩, mkH [([1001], (.box (lRecT p_r)))]⟩) (fun b4 => ?_) (fun r5 hr5 => ?_)
   ·refine G_op [0] (v := (bb b4)) (E_p (by kernel_rfl)) rfl rfl ?_
    refine G_joinR (l := t52_1) (st := fun (b7 : Bool) => ⟨⟨95, [(24, (bb b7)), (2, (bb false)), (1, (.box [1001] 0))]⟩, mkH [([1001], (.box (lRecT p_r)))]⟩) (fun b7 => ?_) (fun r8 hr8 => ?_)
    ·refine G_op [0] (v := (bb b7)) (E_p (by kernel_rfl)) rfl rfl ?_
     refine G_pure (l := t52_3) (st := ⟨⟨95, [(34, (bb ((b7 && ((p_r.Side == 1) || (p_r.Side == 2)))))), (2, (bb false)), (1, (.box [1001] 0))]⟩, mkH [([1001], (.box (lRecT p_r)))]⟩) ?_ (fun r11 => ?_)
     ·refine G_op [0] (v := (bb ((b7 && ((p_r.Side == 1) || (p_r.Side == 2)))))) (E_p (by kernel_rfl)) rfl rfl ?_
      refine G_joinR (l := t52_4) (st := fun (b13 : Bool) => ⟨⟨95, [(38, (bb b13)), (2, (bb false))]⟩, mkH []⟩) (fun b13 => ?_) (fun r14 hr14 => ?_)
      ·refine G_op [0] (v := (bb b13)) (E_p (by kernel_rfl)) rfl rfl ?_
       refine G_nil ?_
       refine G_then ?_
       refine G_ret ?_
       refine G_inBR ?_
       refine G_thenR ?_
       refine G_retR ?_
       refine q_some fun hA => ?_
       show outV _ _ = some _
       kernel_rfl
      ·refine q_bif (fun h12 => ?_) (fun h12 => ?_)
       ·refine G_subR (Sub_lit (t := 35) (v := true) rfl h12) ?_
        refine G_op [0] (v := (.agg (lRecT p_r))) (E_load (by kernel_rfl)) rfl rfl ?_
        refine q_bind fun v15 hv15 => ?_
        refine G_op [0] (v := (bb v15)) (E_call (ds := [.agg (e_RecT p_r)]) (r := .bool v15) hc78 (by kernel_rfl) ((hs78 p_r _ (by kernel_rfl)).trans (congrArg _ hv15))) rfl rfl ?_
        refine G_op [0] (v := (bb v15)) (E_p (by kernel_rfl)) rfl rfl ?_
        exact q_some fun h => RP_sub (by exact Sub_keep ⟨.refl _, .refl _, trivial⟩ trivial (by kernel_rfl) (by kernel_rfl)) h
       ·refine G_subR (Sub_lit (t := 35) (v := false) rfl h12) ?_
        refine G_off rfl rfl ?_
        refine G_off rfl rfl ?_
        refine G_op [0] (v := (bb false)) (E_p (by kernel_rfl)) rfl rfl ?_
        exact q_some fun h => RP_sub (by exact Sub_keep ⟨.refl _, .refl _, trivial⟩ trivial (by kernel_rfl) (by kernel_rfl)) h
     ·refine q_two b7 (fun h9 => ?_) (fun h9 => ?_)
      ·refine G_subR (Sub_lit (t := 25) (v := true) rfl h9) ?_
       refine G_op [0] (v := (.box [1001] 4)) (E_p (by kernel_rfl)) rfl rfl ?_
       refine G_op [0] (v := (ii p_r.Side)) (E_load (by kernel_rfl)) rfl rfl ?_
       refine G_op [0] (v := (bb ((p_r.Side == 1)))) (E_p (by kernel_rfl)) rfl rfl ?_
       refine G_op [0] (v := (bb ((p_r.Side == 1)))) (E_p (by kernel_rfl)) rfl rfl ?_
       refine G_pure (l := t52_2) (st := ⟨⟨95, [(33, (bb (((p_r.Side == 1) || (p_r.Side == 2))))), (25, (bb true)), (2, (bb false)), (1, (.box [1001] 0))]⟩, mkH [([1001], (.box (lRecT p_r)))]⟩) ?_ (fun r18 => ?_)
       ·refine G_op [0] (v := (bb (((p_r.Side == 1) || (p_r.Side == 2))))) (E_p (by kernel_rfl)) rfl rfl ?_
        exact q_some fun h => RP_sub (by exact Sub_env ⟨(Wk_and1 h9), .refl _, .refl _, trivial⟩) h
       ·refine q_two (p_r.Side == 1) (fun h16 => ?_) (fun h16 => ?_)
        ·refine G_subR (Sub_lit (t := 29) (v := true) rfl h16) ?_
         refine G_off rfl rfl ?_
         refine G_off rfl rfl ?_
         refine G_off rfl rfl ?_
         refine G_op [0] (v := (bb true)) (E_p (by kernel_rfl)) rfl rfl ?_
         exact q_some fun h => RP_sub (by exact Sub_env ⟨(Wk_or1 h16), .refl _, .refl _, .refl _, trivial⟩) h
        ·refine G_subR (Sub_lit (t := 29) (v := false) rfl h16) ?_
         refine G_op [0] (v := (.box [1001] 4)) (E_p (by kernel_rfl)) rfl rfl ?_
         refine G_op [0] (v := (ii p_r.Side)) (E_load (by kernel_rfl)) rfl rfl ?_
         refine G_op [0] (v := (bb ((p_r.Side == 2)))) (E_p (by kernel_rfl)) rfl rfl ?_
         refine G_op [0] (v := (bb ((p_r.Side == 2)))) (E_p (by kernel_rfl)) rfl rfl ?_
         exact q_some fun h => RP_sub (by exact Sub_env ⟨(Wk_or0 h16), .refl _, .refl _, .refl _, trivial⟩) h
      ·refine G_subR (Sub_lit (t := 25) (v := false) rfl h9) ?_
       refine G_off rfl rfl ?_
       refine G_off rfl rfl ?_
       refine G_off rfl rfl ?_
       refine G_off rfl rfl ?_
       refine G_off rfl rfl ?_
       refine G_off rfl rfl ?_
       refine G_off rfl rfl ?_
       refine G_off rfl rfl ?_
       refine G_op [0] (v := (bb false)) (E_p (by kernel_rfl)) rfl rfl ?_
       exact q_some fun h => RP_sub (by exact Sub_env ⟨(Wk_and0 h9), .refl _, .refl _, trivial⟩) h
    ·refine q_bif (fun h6 => ?_) (fun h6 => ?_)
     ·refine G_subR (Sub_lit (t := 20) (v := true) rfl h6) ?_
      refine G_op [0] (v := (.box [1001] 3)) (E_p (by kernel_rfl)) rfl rfl ?_
      refine G_op [0] (v := (ii p_r.Symbol)) (E_load (by kernel_rfl)) rfl rfl ?_
      refine q_bind fun v19 hv19 => ?_
      refine G_op [0] (v := (bb v19)) (E_call (ds := [.int .i64 p_r.Symbol, .int .i64 8]) (r := .bool v19) hc77 (by kernel_rfl) ((hs77 p_r.Symbol 8 _ (by kernel_rfl)).trans (congrArg _ hv19))) rfl rfl ?_
      refine G_op [0] (v := (bb v19)) (E_p (by kernel_rfl)) rfl rfl ?_
      exact q_some fun h => RP_sub (by exact Sub_env ⟨.refl _, .refl _, .refl _, trivial⟩) h
     ·refine G_subR (Sub_lit (t := 20) (v := false) rfl h6) ?_
      refine G_off rfl rfl ?_
      refine G_off rfl rfl ?_
      refine G_off rfl rfl ?_
      refine G_op [0] (v := (bb false)) (E_p (by kernel_rfl)) rfl rfl ?_
      exact q_some fun h => RP_sub (by exact Sub_env ⟨.refl _, .refl _, .refl _, trivial⟩) h
   ·refine q_bif (fun h3 => ?_) (fun h3 => ?_)
    ·refine G_subR (Sub_lit (t := 15) (v := true) rfl h3) ?_
     refine G_op [0] (v := (.box [1001] 2)) (E_p (by kernel_rfl)) rfl rfl ?_
     refine G_op [0] (v := (ii p_r.Account)) (E_load (by kernel_rfl)) rfl rfl ?_
     refine q_bind fun v20 hv20 => ?_
     refine G_op [0] (v := (bb v20)) (E_call (ds := [.int .i64 p_r.Account, .int .i64 8]) (r := .bool v20) hc77 (by kernel_rfl) ((hs77 p_r.Account 8 _ (by kernel_rfl)).trans (congrArg _ hv20))) rfl rfl ?_
     refine G_op [0] (v := (bb v20)) (E_p (by kernel_rfl)) rfl rfl ?_
     exact q_some fun h => RP_sub (by exact Sub_env ⟨.refl _, .refl _, .refl _, trivial⟩) h
    ·refine G_subR (Sub_lit (t := 15) (v := false) rfl h3) ?_
     refine G_off rfl rfl ?_
     refine G_off rfl rfl ?_
     refine G_off rfl rfl ?_
     refine G_op [0] (v := (bb false)) (E_p (by kernel_rfl)) rfl rfl ?_
     exact q_some fun h => RP_sub (by exact Sub_env ⟨.refl _, .refl _, .refl _, trivial⟩) h
  ·refine G_seq ?_
   refine G_region ?_
   refine G_op [0] (v := (bb ((p_r.Kind == 2)))) (E_p (by kernel_rfl)) rfl rfl ?_
   refine G_op [0] (v := (bb ((p_r.Kind == 2)))) (E_p (by kernel_rfl)) rfl rfl ?_
   refine G_nil ?_
   refine G_then ?_
   refine G_cond (t := (p_r.Kind == 2)) (by kernel_rfl) (fun _ => ?_) (fun _ => ?_)
   ·refine G_seq ?_
    refine G_region ?_
    refine G_op [0] (v := (.box [1001] 1)) (E_p (by kernel_rfl)) rfl rfl ?_
    refine G_op [0] (v := (ii p_r.Order)) (E_load (by kernel_rfl)) rfl rfl ?_
    refine q_bind fun v21 hv21 => ?_
    refine G_op [0] (v := (bb v21)) (E_call (ds := [.int .i64 p_r.Order]) (r := .bool v21) hc76 (by kernel_rfl) ((hs76 p_r.Order _ (by kernel_rfl)).trans (congrArg _ hv21))) rfl rfl ?_
    refine G_op [0] (v := (bb v21)) (E_p (by kernel_rfl)) rfl rfl ?_
    refine G_joinR (l := t52_5) (st := fun (b23 : Bool) => ⟨⟨95, [(47, (bb b23)), (2, (bb false))]⟩, mkH []⟩) (fun b23 => ?_) (fun r24 hr24 => ?_)
    ·refine G_op [0] (v := (bb b23)) (E_p (by kernel_rfl)) rfl rfl ?_
     refine G_nil ?_
     refine G_then ?_
     refine G_ret ?_
     refine G_inBR ?_
     refine G_thenR ?_
     refine G_retR ?_
     refine q_some fun hA => ?_
     show outV _ _ = some _
     kernel_rfl
    ·refine q_bif (fun h22 => ?_) (fun h22 => ?_)
     ·refine G_subR (Sub_lit (t := 44) (v := true) rfl h22) ?_
      refine G_op [0] (v := (.agg (lRecT p_r))) (E_load (by kernel_rfl)) rfl rfl ?_
      refine q_bind fun v25 hv25 => ?_
      refine G_op [0] (v := (bb v25)) (E_call (ds := [.agg (e_RecT p_r)]) (r := .bool v25) hc78 (by kernel_rfl) ((hs78 p_r _ (by kernel_rfl)).trans (congrArg _ hv25))) rfl rfl ?_
      refine G_op [0] (v := (bb v25)) (E_p (by kernel_rfl)) rfl rfl ?_
      exact q_some fun h => RP_sub (by exact Sub_keep ⟨.refl _, .refl _, trivial⟩ trivial (by kernel_rfl) (by kernel_rfl)) h
     ·refine G_subR (Sub_lit (t := 44) (v := false) rfl h22) ?_
      refine G_off rfl rfl ?_
      refine G_off rfl rfl ?_
      refine G_op [0] (v := (bb false)) (E_p (by kernel_rfl)) rfl rfl ?_
      exact q_some fun h => RP_sub (by exact Sub_keep ⟨.refl _, .refl _, trivial⟩ trivial (by kernel_rfl) (by kernel_rfl)) h
   ·refine G_seq ?_
    refine G_region ?_
    refine G_op [0] (v := (bb ((p_r.Kind == 3)))) (E_p (by kernel_rfl)) rfl rfl ?_
    refine G_op [0] (v := (bb ((p_r.Kind == 3)))) (E_p (by kernel_rfl)) rfl rfl ?_
    refine G_nil ?_
    refine G_then ?_
    refine G_cond (t := (p_r.Kind == 3)) (by kernel_rfl) (fun _ => ?_) (fun _ => ?_)
    ·refine G_seq ?_
     refine G_region ?_
     refine G_op [0] (v := (.box [1001] 1)) (E_p (by kernel_rfl)) rfl rfl ?_
     refine G_op [0] (v := (ii p_r.Order)) (E_load (by kernel_rfl)) rfl rfl ?_
     refine q_bind fun v26 hv26 => ?_
     refine G_op [0] (v := (bb v26)) (E_call (ds := [.int .i64 p_r.Order]) (r := .bool v26) hc76 (by kernel_rfl) ((hs76 p_r.Order _ (by kernel_rfl)).trans (congrArg _ hv26))) rfl rfl ?_
     refine G_op [0] (v := (bb v26)) (E_p (by kernel_rfl)) rfl rfl ?_
     refine G_nil ?_
     refine G_then ?_
     refine G_subW (s0 := ⟨⟨95, [(2, (bb v26))]⟩, mkH []⟩) (by exact Sub_keep ⟨.refl _, trivial⟩ trivial (by kernel_rfl) (by kernel_rfl)) ?_
     refine G_ret ?_
     refine G_inBR ?_
     refine G_thenR ?_
     refine G_retR ?_
     refine q_some fun hA => ?_
     show outV _ _ = some _
     kernel_rfl
    ·refine G_seq ?_
     refine G_region ?_
     refine G_op [0] (v := (bb ((p_r.Kind == 4)))) (E_p (by kernel_rfl)) rfl rfl ?_
     refine G_op [0] (v := (bb ((p_r.Kind == 4)))) (E_p (by kernel_rfl)) rfl rfl ?_
     refine G_nil ?_
     refine G_then ?_
     refine G_subW (s0 := ⟨⟨95, [(53, (bb ((p_r.Kind == 4)))), (9, (ii p_r.Kind)), (2, (bb false)), (1, (.box [1001] 0))]⟩, mkH [([1001], (.box (lRecT p_r)))]⟩) (by exact Sub_env ⟨.refl _, .refl _, .refl _, .refl _, trivial⟩) ?_
     refine G_cond (t := (p_r.Kind == 4)) (by kernel_rfl) (fun _ => ?_) (fun _ => ?_)
     ·refine G_seq ?_
      refine G_region ?_
      refine G_op [0] (v := (.box [1001] 3)) (E_p (by kernel_rfl)) rfl rfl ?_
      refine G_op [0] (v := (ii p_r.Symbol)) (E_load (by kernel_rfl)) rfl rfl ?_
      refine G_op [0] (v := (bb ((p_r.Symbol == (-1))))) (E_p (by kernel_rfl)) rfl rfl ?_
      refine G_op [0] (v := (bb ((p_r.Symbol == (-1))))) (E_p (by kernel_rfl)) rfl rfl ?_
      refine G_pure (l := t52_6) (st := ⟨⟨95, [(62, (bb (((p_r.Symbol == (-1)) && (p_r.Long == 0))))), (2, (bb false)), (1, (.box [1001] 0))]⟩, mkH [([1001], (.box (lRecT p_r)))]⟩) ?_ (fun r29 => ?_)
      ·refine G_op [0] (v := (bb (((p_r.Symbol == (-1)) && (p_r.Long == 0))))) (E_p (by kernel_rfl)) rfl rfl ?_
       refine G_pure (l := t52_7) (st := ⟨⟨95, [(67, (bb ((((p_r.Symbol == (-1)) && (p_r.Long == 0)) && (p_r.Short == 0))))), (2, (bb false)), (1, (.box [1001] 0))]⟩, mkH [([1001], (.box (lRecT p_r)))]⟩) ?_ (fun r32 => ?_)
       ·refine G_op [0] (v := (bb ((((p_r.Symbol == (-1)) && (p_r.Long == 0)) && (p_r.Short == 0))))) (E_p (by kernel_rfl)) rfl rfl ?_
        refine G_nil ?_
        refine G_then ?_
        refine G_seq ?_
        refine G_region ?_
        refine G_op [0] (v := (.box [1001] 2)) (E_p (by kernel_rfl)) rfl rfl ?_
        refine G_op [0] (v := (ii p_r.Account)) (E_load (by kernel_rfl)) rfl rfl ?_
        refine q_bind fun v33 hv33 => ?_
        refine G_op [0] (v := (bb v33)) (E_call (ds := [.int .i64 p_r.Account, .int .i64 8]) (r := .bool v33) hc77 (by kernel_rfl) ((hs77 p_r.Account 8 _ (by kernel_rfl)).trans (congrArg _ hv33))) rfl rfl ?_
        refine G_op [0] (v := (bb v33)) (E_p (by kernel_rfl)) rfl rfl ?_
        refine G_joinR (l := t52_9) (st := fun (b35 : Bool) => ⟨⟨95, [(78, (bb b35)), (2, (bb false)), (1, (.box [1001] 0))]⟩, mkH [([1001], (.box (lRecT p_r)))]⟩) (fun b35 => ?_) (fun r36 hr36 => ?_)
        ·refine G_op [0] (v := (bb b35)) (E_p (by kernel_rfl)) rfl rfl ?_
         refine G_pure (l := t52_10) (st := ⟨⟨95, [(88, (bb ((b35 && (decide ((if p_r.Open < (if p_r.Short < p_r.Long then p_r.Short else p_r.Long) then p_r.Open else (if p_r.Short < p_r.Long then p_r.Short else p_r.Long)) ≥ 0)))))), (2, (bb false))]⟩, mkH []⟩) ?_ (fun r39 => ?_)
         ·refine G_op [0] (v := (bb ((b35 && (decide ((if p_r.Open < (if p_r.Short < p_r.Long then p_r.Short else p_r.Long) then p_r.Open else (if p_r.Short < p_r.Long then p_r.Short else p_r.Long)) ≥ 0)))))) (E_p (by kernel_rfl)) rfl rfl ?_
          refine G_nil ?_
          refine G_then ?_
          refine G_ret ?_
          refine G_inBR ?_
          refine G_thenR ?_
          refine G_retR ?_
          refine q_some fun hA => ?_
          show outV _ _ = some _
          kernel_rfl
         ·refine q_two b35 (fun h37 => ?_) (fun h37 => ?_)
          ·refine G_subR (Sub_lit (t := 79) (v := true) rfl h37) ?_
           refine G_op [0] (v := (.box [1001] 7)) (E_p (by kernel_rfl)) rfl rfl ?_
           refine G_op [0] (v := (ii p_r.Long)) (E_load (by kernel_rfl)) rfl rfl ?_
           refine G_op [0] (v := (.box [1001] 8)) (E_p (by kernel_rfl)) rfl rfl ?_
           refine G_op [0] (v := (ii p_r.Short)) (E_load (by kernel_rfl)) rfl rfl ?_
           refine G_op [0] (v := (.box [1001] 9)) (E_p (by kernel_rfl)) rfl rfl ?_
           refine G_op [0] (v := (ii p_r.Open)) (E_load (by kernel_rfl)) rfl rfl ?_
           refine G_op [0] (v := (ii ((if p_r.Open < (if p_r.Short < p_r.Long then p_r.Short else p_r.Long) then p_r.Open else (if p_r.Short < p_r.Long then p_r.Short else p_r.Long))))) (E_p (by kernel_rfl)) rfl rfl ?_
           refine G_op [0] (v := (bb ((decide ((if p_r.Open < (if p_r.Short < p_r.Long then p_r.Short else p_r.Long) then p_r.Open else (if p_r.Short < p_r.Long then p_r.Short else p_r.Long)) ≥ 0))))) (E_p (by kernel_rfl)) rfl rfl ?_
           refine G_op [0] (v := (bb ((decide ((if p_r.Open < (if p_r.Short < p_r.Long then p_r.Short else p_r.Long) then p_r.Open else (if p_r.Short < p_r.Long then p_r.Short else p_r.Long)) ≥ 0))))) (E_p (by kernel_rfl)) rfl rfl ?_
           exact q_some fun h => RP_sub (by exact Sub_keep ⟨(Wk_and1 h37), .refl _, trivial⟩ trivial (by kernel_rfl) (by kernel_rfl)) h
          ·refine G_subR (Sub_lit (t := 79) (v := false) rfl h37) ?_
           refine G_off rfl rfl ?_
           refine G_off rfl rfl ?_
           refine G_off rfl rfl ?_
           refine G_off rfl rfl ?_
           refine G_off rfl rfl ?_
           refine G_off rfl rfl ?_
           refine G_off rfl rfl ?_
           refine G_off rfl rfl ?_
           refine G_op [0] (v := (bb false)) (E_p (by kernel_rfl)) rfl rfl ?_
           exact q_some fun h => RP_sub (by exact Sub_keep ⟨(Wk_and0 h37), .refl _, trivial⟩ trivial (by kernel_rfl) (by kernel_rfl)) h
        ·refine q_bif (fun h34 => ?_) (fun h34 => ?_)
         ·refine G_subR (Sub_lit (t := 71) (v := true) rfl h34) ?_
          refine G_op [0] (v := (bb ((((p_r.Symbol == (-1)) && (p_r.Long == 0)) && (p_r.Short == 0))))) (E_p (by kernel_rfl)) rfl rfl ?_
          refine G_op [0] (v := (bb ((((p_r.Symbol == (-1)) && (p_r.Long == 0)) && (p_r.Short == 0))))) (E_p (by kernel_rfl)) rfl rfl ?_
          refine G_joinR (l := t52_8) (st := fun (b41 : Bool) => ⟨⟨95, [(77, (bb b41)), (71, (bb true)), (2, (bb false)), (1, (.box [1001] 0))]⟩, mkH [([1001], (.box (lRecT p_r)))]⟩) (fun b41 => ?_) (fun r42 hr42 => ?_)
          ·refine G_op [0] (v := (bb b41)) (E_p (by kernel_rfl)) rfl rfl ?_
           exact q_some fun h => RP_sub (by exact Sub_env ⟨.refl _, .refl _, .refl _, trivial⟩) h
          ·refine q_bif (fun h40 => ?_) (fun h40 => ?_)
           ·refine G_subR (Sub_lit (t := 73) (v := true) rfl h40) ?_
            refine G_off rfl rfl ?_
            refine G_off rfl rfl ?_
            refine G_off rfl rfl ?_
            refine G_op [0] (v := (bb true)) (E_p (by kernel_rfl)) rfl rfl ?_
            exact q_some fun h => RP_sub (by exact Sub_env ⟨.refl _, .refl _, .refl _, .refl _, trivial⟩) h
           ·refine G_subR (Sub_lit (t := 73) (v := false) rfl h40) ?_
            refine G_op [0] (v := (.box [1001] 3)) (E_p (by kernel_rfl)) rfl rfl ?_
            refine G_op [0] (v := (ii p_r.Symbol)) (E_load (by kernel_rfl)) rfl rfl ?_
            refine q_bind fun v43 hv43 => ?_
            refine G_op [0] (v := (bb v43)) (E_call (ds := [.int .i64 p_r.Symbol, .int .i64 8]) (r := .bool v43) hc77 (by kernel_rfl) ((hs77 p_r.Symbol 8 _ (by kernel_rfl)).trans (congrArg _ hv43))) rfl rfl ?_
            refine G_op [0] (v := (bb v43)) (E_p (by kernel_rfl)) rfl rfl ?_
            exact q_some fun h => RP_sub (by exact Sub_env ⟨.refl _, .refl _, .refl _, .refl _, trivial⟩) h
         ·refine G_subR (Sub_lit (t := 71) (v := false) rfl h34) ?_
          refine G_off rfl rfl ?_
          refine G_off rfl rfl ?_
          refine G_off rfl rfl ?_
          refine G_off rfl rfl ?_
          refine G_off rfl rfl ?_
          refine G_off rfl rfl ?_
          refine G_op [0] (v := (bb false)) (E_p (by kernel_rfl)) rfl rfl ?_
          exact q_some fun h => RP_sub (by exact Sub_env ⟨.refl _, .refl _, .refl _, trivial⟩) h
       ·refine q_two ((p_r.Symbol == (-1)) && (p_r.Long == 0)) (fun h30 => ?_) (fun h30 => ?_)
        ·refine G_subR (Sub_lit (t := 63) (v := true) rfl h30) ?_
         refine G_op [0] (v := (.box [1001] 8)) (E_p (by kernel_rfl)) rfl rfl ?_
         refine G_op [0] (v := (ii p_r.Short)) (E_load (by kernel_rfl)) rfl rfl ?_
         refine G_op [0] (v := (bb ((p_r.Short == 0)))) (E_p (by kernel_rfl)) rfl rfl ?_
         refine G_op [0] (v := (bb ((p_r.Short == 0)))) (E_p (by kernel_rfl)) rfl rfl ?_
         exact q_some fun h => RP_sub (by exact Sub_env ⟨(Wk_and1 h30), .refl _, .refl _, trivial⟩) h
        ·refine G_subR (Sub_lit (t := 63) (v := false) rfl h30) ?_
         refine G_off rfl rfl ?_
         refine G_off rfl rfl ?_
         refine G_off rfl rfl ?_
         refine G_op [0] (v := (bb false)) (E_p (by kernel_rfl)) rfl rfl ?_
         exact q_some fun h => RP_sub (by exact Sub_env ⟨(Wk_and0 h30), .refl _, .refl _, trivial⟩) h
      ·refine q_two (p_r.Symbol == (-1)) (fun h27 => ?_) (fun h27 => ?_)
       ·refine G_subR (Sub_lit (t := 58) (v := true) rfl h27) ?_
        refine G_op [0] (v := (.box [1001] 7)) (E_p (by kernel_rfl)) rfl rfl ?_
        refine G_op [0] (v := (ii p_r.Long)) (E_load (by kernel_rfl)) rfl rfl ?_
        refine G_op [0] (v := (bb ((p_r.Long == 0)))) (E_p (by kernel_rfl)) rfl rfl ?_
        refine G_op [0] (v := (bb ((p_r.Long == 0)))) (E_p (by kernel_rfl)) rfl rfl ?_
        exact q_some fun h => RP_sub (by exact Sub_env ⟨(Wk_and1 h27), .refl _, .refl _, trivial⟩) h
       ·refine G_subR (Sub_lit (t := 58) (v := false) rfl h27) ?_
        refine G_off rfl rfl ?_
        refine G_off rfl rfl ?_
        refine G_off rfl rfl ?_
        refine G_op [0] (v := (bb false)) (E_p (by kernel_rfl)) rfl rfl ?_
        exact q_some fun h => RP_sub (by exact Sub_env ⟨(Wk_and0 h27), .refl _, .refl _, trivial⟩) h
     ·refine G_seq ?_
      refine G_region ?_
      refine G_op [0] (v := (bb ((p_r.Kind == 5)))) (E_p (by kernel_rfl)) rfl rfl ?_
      refine G_op [0] (v := (bb ((p_r.Kind == 5)))) (E_p (by kernel_rfl)) rfl rfl ?_
      refine G_nil ?_
      refine G_then ?_
      refine G_cond (t := (p_r.Kind == 5)) (by kernel_rfl) (fun _ => ?_) (fun _ => ?_)
      ·refine G_seq ?_
       refine G_region ?_
       refine G_op [0] (v := (bb true)) (E_p (by kernel_rfl)) rfl rfl ?_
       refine G_nil ?_
       refine G_then ?_
       refine G_ret ?_
       refine G_inBR ?_
       refine G_thenR ?_
       refine G_retR ?_
       refine q_some fun hA => ?_
       show outV _ _ = some _
       kernel_rfl
      ·refine G_seq ?_
       refine G_region ?_
       refine G_op [0] (v := (bb ((p_r.Kind == 6)))) (E_p (by kernel_rfl)) rfl rfl ?_
       refine G_op [0] (v := (bb ((p_r.Kind == 6)))) (E_p (by kernel_rfl)) rfl rfl ?_
       refine G_nil ?_
       refine G_then ?_
       refine G_cond (t := (p_r.Kind == 6)) (by kernel_rfl) (fun _ => ?_) (fun _ => ?_)
       ·refine G_seq ?_
        refine G_region ?_
        refine G_op [0] (v := (.agg (lRecT p_r))) (E_load (by kernel_rfl)) rfl rfl ?_
        refine q_bind fun v44 hv44 => ?_
        refine G_op [0] (v := (bb v44)) (E_call (ds := [.agg (e_RecT p_r)]) (r := .bool v44) hc79 (by kernel_rfl) ((hs79 p_r _ (by kernel_rfl)).trans (congrArg _ hv44))) rfl rfl ?_
        refine G_op [0] (v := (bb v44)) (E_p (by kernel_rfl)) rfl rfl ?_
        refine G_nil ?_
        refine G_then ?_
        refine G_subW (s0 := ⟨⟨95, [(2, (bb v44))]⟩, mkH []⟩) (by exact Sub_keep ⟨.refl _, trivial⟩ trivial (by kernel_rfl) (by kernel_rfl)) ?_
        refine G_ret ?_
        refine G_inBR ?_
        refine G_thenR ?_
        refine G_retR ?_
        refine q_some fun hA => ?_
        show outV _ _ = some _
        kernel_rfl
       ·refine G_skip ?_
        refine G_inB ?_
        refine G_then ?_
        refine G_seq ?_
        refine G_region ?_
        refine G_op [0] (v := (bb false)) (E_p (by kernel_rfl)) rfl rfl ?_
        refine G_nil ?_
        refine G_then ?_
        refine G_ret ?_
        refine G_retR ?_
        refine q_some fun hA => ?_
        show outV _ _ = some _
        kernel_rfl
theorem s52 (x0 : RecT) (ds : List DV) (hd : List.map z1 ds = List.map z1 [.agg (e_RecT x0)]) : sp52 ds = (g_rec_Right x0).map fun r => .bool r :=
 specT_at (ea := fun (a : RecT) => [.agg (e_RecT a)]) (eb := fun (r : Bool) => .bool r) (g := fun (a : RecT) => g_rec_Right a) inj52 x0 hd

def k39_0 : ACode := (.region (⟨(some 4), (.p (.foff 0 (.t 1))), none⟩ :: ⟨(some 5), (.r (.load 1 false (.t 4))), none⟩ :: ⟨(some 6), (.p (.bin .neq (.t 5) (.c (.int .i64 1)))), none⟩ :: ⟨(some 7), (.p (.mv (.t 6))), none⟩ :: ⟨(some 8), (.r (.load 13 true (.t 1))), (some (7, false))⟩ :: ⟨(some 9), (.r (.call 52 [(.t 8)])), (some (7, false))⟩ :: ⟨(some 10), (.p (.un .not (.t 9))), (some (7, false))⟩ :: ⟨(some 11), (.p (.pick (.t 7) (.c (.bool true)) (.t 10))), none⟩ :: []))
def k39_1 : ACode := (.seq (.region (⟨(some 12), (.p (.build [(.int .i64 0), (.int .i64 0), (.int .i64 0), (.int .i64 0), (.int .i64 0), (.int .i64 0), (.int .i64 0), (.int .i64 0), (.int .i64 0), (.int .i64 0), (.int .i64 0), (.bool false)] [])), none⟩ :: ⟨none, (.w (.store 12 (.t 2) (.t 12))), none⟩ :: ⟨(some 3), (.p (.mv (.c (.int .i64 1)))), none⟩ :: [])) .ret)
def k39_2 : ACode := (.cond (.t 11) k39_1 .skip)
def k39_3 : ACode := (.seq k39_0 k39_2)
def k39_4 : ACode := (.region (⟨(some 13), (.p (.foff 1 (.t 1))), none⟩ :: ⟨(some 14), (.r (.load 1 false (.t 13))), none⟩ :: ⟨(some 15), (.p (.foff 2 (.t 1))), none⟩ :: ⟨(some 16), (.r (.load 1 false (.t 15))), none⟩ :: ⟨(some 17), (.p (.foff 3 (.t 1))), none⟩ :: ⟨(some 18), (.r (.load 1 false (.t 17))), none⟩ :: ⟨(some 19), (.p (.foff 4 (.t 1))), none⟩ :: ⟨(some 20), (.r (.load 1 false (.t 19))), none⟩ :: ⟨(some 21), (.p (.foff 5 (.t 1))), none⟩ :: ⟨(some 22), (.r (.load 1 false (.t 21))), none⟩ :: ⟨(some 23), (.p (.foff 6 (.t 1))), none⟩ :: ⟨(some 24), (.r (.load 1 false (.t 23))), none⟩ :: ⟨(some 25), (.p (.build [(.int .i64 0), (.int .i64 0), (.int .i64 0), (.int .i64 0), (.int .i64 0), (.int .i64 0), (.int .i64 0), (.int .i64 0), (.int .i64 0), (.int .i64 0), (.int .i64 0), (.bool false)] [(0, (1, (.t 14))), (1, (1, (.t 16))), (2, (1, (.t 18))), (3, (1, (.t 20))), (4, (1, (.t 22))), (5, (1, (.t 24))), (7, (1, (.c (.int .i64 1))))])), none⟩ :: ⟨none, (.w (.store 12 (.t 2) (.t 25))), none⟩ :: ⟨(some 3), (.p (.mv (.c (.int .i64 0)))), none⟩ :: []))
def k39_5 : ACode := (.seq k39_4 .ret)
def k39_6 : ACode := (.seq k39_3 k39_5)
def cd39 : ACode := (.seq (.region (⟨(some 1), (.a (.bx (.t 0))), none⟩ :: ⟨(some 2), (.a (.alloc [(.int .i64 0), (.int .i64 0), (.int .i64 0), (.int .i64 0), (.int .i64 0), (.int .i64 0), (.int .i64 0), (.int .i64 0), (.int .i64 0), (.int .i64 0), (.int .i64 0), (.bool false)])), none⟩ :: ⟨(some 3), (.p (.mv (.c (.int .i64 0)))), none⟩ :: [])) k39_6)
def rs39 : List ARes := [(.cell 2 12 true), (.tmp 3)]
def af39 : AFn := ⟨cd39, rs39, 26⟩
theorem c39 : compF Try.prog 39 = some af39 := by kernel_rfl
noncomputable def g_order_Begin (p_r : RecT) : Option (OrderT × Int) := (Option.bind (bif (p_r.Kind != 1) then (some true) else (Option.bind (g_rec_Right p_r) fun v4 => (some (!v4)))) fun (b2 : Bool) => (bif b2 then (some ((OrderT.mk 0 0 0 0 0 0 0 0 0 0 0 false), 1)) else (some ((OrderT.mk p_r.Order p_r.Account p_r.Symbol p_r.Side p_r.Qty p_r.Price 0 1 0 0 0 false), 0))))
noncomputable def sp39 : List DV → Option DV := specT (fun (a : RecT) => [.agg (e_RecT a)]) (fun (r : (OrderT × Int)) => .tup [.agg (e_OrderT r.1), .int .i64 r.2]) (fun (a : RecT) => g_order_Begin a)
theorem inj39 : ∀ (a b : RecT), List.map z1 ((fun (a : RecT) => [.agg (e_RecT a)]) a) = List.map z1 ((fun (a : RecT) => [.agg (e_RecT a)]) b) → a = b := by
 intro a0 b0 h
 simp only [List.map_cons, List.map_nil, List.cons.injEq, and_true] at h
 exact (e_RecT_inj (DV.agg.inj h))
set_option maxHeartbeats 1000000 in
theorem w39 {C : FuncId → Con} (hC : ConOk Try.prog C) {q52 : List DV → Option DV} (hc52 : C 52 = .val q52) (hs52 : ∀ (x0 : RecT) (ds : List DV), List.map z1 ds = List.map z1 [.agg (e_RecT x0)] → q52 ds = (g_rec_Right x0).map fun r => .bool r) : ValOk Try.prog 39 sp39 := by
 refine valT_of hC c39 _ _ _ inj39 ?_
 intro p_r
 show Imq (g_order_Begin p_r) (fun _ => True) fun r => WP Try.prog C (fun _ => False) cd39 (retQ fun s => outV s rs39 = some (.tup [.agg (e_OrderT r.1), .int .i64 r.2])) ⟨⟨26, [(0, (.val (.agg [(.int .i64 p_r.Kind), (.int .i64 p_r.Order), (.int .i64 p_r.Account), (.int .i64 p_r.Symbol), (.int .i64 p_r.Side), (.int .i64 p_r.Qty), (.int .i64 p_r.Price), (.int .i64 p_r.Long), (.int .i64 p_r.Short), (.int .i64 p_r.Open), (.bool p_r.On), (.int .i64 p_r.Seq), (.int .i64 p_r.What)])))]⟩, mkH []⟩
 unfold g_order_Begin
 refine G_seq ?_
 refine G_region ?_
 refine G_op [1001] (v := (.box [1001] 0)) (E_a (u := (.box [1001] 0)) (b := (.box (lRecT p_r))) (h' := [([1001], (.box (lRecT p_r)))]) (by kernel_rfl) (by kernel_rfl) (by kernel_rfl)) rfl rfl ?_
 refine G_op [1002] (v := (.box [1002] 0)) (E_a (u := (.box [1002] 0)) (b := (.box zOrderT)) (h' := [([1001], (.box (lRecT p_r))), ([1002], (.box zOrderT))]) (by kernel_rfl) (by kernel_rfl) (by kernel_rfl)) rfl rfl ?_
 refine G_op [0] (v := (ii 0)) (E_p (by kernel_rfl)) rfl rfl ?_
 refine G_nil ?_
 refine G_then ?_
 refine G_seq ?_
 refine G_seq ?_
 refine G_region ?_
 refine G_op [0] (v := (.box [1001] 0)) (E_p (by kernel_rfl)) rfl rfl ?_
 refine G_op [0] (v := (ii p_r.Kind)) (E_load (by kernel_rfl)) rfl rfl ?_
 refine G_op [0] (v := (bb ((p_r.Kind != 1)))) (E_p (by kernel_rfl)) rfl rfl ?_
 refine G_op [0] (v := (bb ((p_r.Kind != 1)))) (E_p (by kernel_rfl)) rfl rfl ?_
 refine G_joinR (l := []) (st := fun (b2 : Bool) => ⟨⟨26, [(11, (bb b2)), (3, (ii 0)), (2, (.box [1002] 0)), (1, (.box [1001] 0))]⟩, mkH [([1001], (.box (lRecT p_r))), ([1002], (.box zOrderT))]⟩) (fun b2 => ?_) (fun r3 hr3 => ?_)
 ·refine G_nil ?_
  refine G_then ?_
  refine G_cond (t := b2) (by kernel_rfl) (fun _ => ?_) (fun _ => ?_)
  ·refine G_seq ?_
   refine G_region ?_
   refine G_op [0] (v := (.agg zOrderT)) (E_p (by kernel_rfl)) rfl rfl ?_
   refine G_op0 [0] (v := (.val (.tup []))) (E_store (b := [1002]) (o := 0) (cs := zOrderT) (cells := zOrderT) (cells' := zOrderT) (h' := [([1001], (.box (lRecT p_r))), ([1002], (.box zOrderT))]) (by kernel_rfl) (by kernel_rfl) (by kernel_rfl) rfl (by kernel_rfl) (by kernel_rfl) (by kernel_rfl) (by kernel_rfl)) rfl ?_
   refine G_op [0] (v := (ii 1)) (E_p (by kernel_rfl)) rfl rfl ?_
   refine G_nil ?_
   refine G_then ?_
   refine G_ret ?_
   refine G_thenR ?_
   refine G_retR ?_
   refine q_some fun hA => ?_
   show outV _ _ = some _
   kernel_rfl
  ·refine G_skip ?_
   refine G_then ?_
   refine G_seq ?_
   refine G_region ?_
   refine G_op [0] (v := (.box [1001] 1)) (E_p (by kernel_rfl)) rfl rfl ?_
   refine G_op [0] (v := (ii p_r.Order)) (E_load (by kernel_rfl)) rfl rfl ?_
   refine G_op [0] (v := (.box [1001] 2)) (E_p (by kernel_rfl)) rfl rfl ?_
   refine G_op [0] (v := (ii p_r.Account)) (E_load (by kernel_rfl)) rfl rfl ?_
   refine G_op [0] (v := (.box [1001] 3)) (E_p (by kernel_rfl)) rfl rfl ?_
   refine G_op [0] (v := (ii p_r.Symbol)) (E_load (by kernel_rfl)) rfl rfl ?_
   refine G_op [0] (v := (.box [1001] 4)) (E_p (by kernel_rfl)) rfl rfl ?_
   refine G_op [0] (v := (ii p_r.Side)) (E_load (by kernel_rfl)) rfl rfl ?_
   refine G_op [0] (v := (.box [1001] 5)) (E_p (by kernel_rfl)) rfl rfl ?_
   refine G_op [0] (v := (ii p_r.Qty)) (E_load (by kernel_rfl)) rfl rfl ?_
   refine G_op [0] (v := (.box [1001] 6)) (E_p (by kernel_rfl)) rfl rfl ?_
   refine G_op [0] (v := (ii p_r.Price)) (E_load (by kernel_rfl)) rfl rfl ?_
   refine G_op [0] (v := (.agg [(ii p_r.Order), (ii p_r.Account), (ii p_r.Symbol), (ii p_r.Side), (ii p_r.Qty), (ii p_r.Price), (ii 0), (ii 1), (ii 0), (ii 0), (ii 0), (bb false)])) (E_p (by kernel_rfl)) rfl rfl ?_
   refine G_op0 [0] (v := (.val (.tup []))) (E_store (b := [1002]) (o := 0) (cs := [(ii p_r.Order), (ii p_r.Account), (ii p_r.Symbol), (ii p_r.Side), (ii p_r.Qty), (ii p_r.Price), (ii 0), (ii 1), (ii 0), (ii 0), (ii 0), (bb false)]) (cells := zOrderT) (cells' := [(ii p_r.Order), (ii p_r.Account), (ii p_r.Symbol), (ii p_r.Side), (ii p_r.Qty), (ii p_r.Price), (ii 0), (ii 1), (ii 0), (ii 0), (ii 0), (bb false)]) (h' := [([1001], (.box (lRecT p_r))), ([1002], (.box [(ii p_r.Order), (ii p_r.Account), (ii p_r.Symbol), (ii p_r.Side), (ii p_r.Qty), (ii p_r.Price), (ii 0), (ii 1), (ii 0), (ii 0), (ii 0), (bb false)]))]) (by kernel_rfl) (by kernel_rfl) (by kernel_rfl) rfl (by kernel_rfl) (by kernel_rfl) (by kernel_rfl) (by kernel_rfl)) rfl ?_
   refine G_op [0] (v := (ii 0)) (E_p (by kernel_rfl)) rfl rfl ?_
   refine G_nil ?_
   refine G_then ?_
   refine G_subW (s0 := ⟨⟨26, [(3, (ii 0)), (2, (.box [1002] 0))]⟩, mkH [([1002], (.box [(ii p_r.Order), (ii p_r.Account), (ii p_r.Symbol), (ii p_r.Side), (ii p_r.Qty), (ii p_r.Price), (ii 0), (ii 1), (ii 0), (ii 0), (ii 0), (bb false)]))]⟩) (by exact Sub_keep ⟨.refl _, .refl _, trivial⟩ ⟨⟨_, (by kernel_rfl), .refl _⟩, trivial⟩ (by kernel_rfl) (by kernel_rfl)) ?_
   refine G_ret ?_
   refine G_retR ?_
   refine q_some fun hA => ?_
   show outV _ _ = some _
   kernel_rfl
 ·refine q_bif (fun h1 => ?_) (fun h1 => ?_)
  ·refine G_subR (Sub_lit (t := 7) (v := true) rfl h1) ?_
   refine G_off rfl rfl ?_
   refine G_off rfl rfl ?_
   refine G_off rfl rfl ?_
   refine G_op [0] (v := (bb true)) (E_p (by kernel_rfl)) rfl rfl ?_
   exact q_some fun h => RP_sub (by exact Sub_env ⟨.refl _, .refl _, .refl _, .refl _, trivial⟩) h
  ·refine G_subR (Sub_lit (t := 7) (v := false) rfl h1) ?_
   refine G_op [0] (v := (.agg (lRecT p_r))) (E_load (by kernel_rfl)) rfl rfl ?_
   refine q_bind fun v4 hv4 => ?_
   refine G_op [0] (v := (bb v4)) (E_call (ds := [.agg (e_RecT p_r)]) (r := .bool v4) hc52 (by kernel_rfl) ((hs52 p_r _ (by kernel_rfl)).trans (congrArg _ hv4))) rfl rfl ?_
   refine G_op [0] (v := (bb ((!v4)))) (E_p (by kernel_rfl)) rfl rfl ?_
   refine G_op [0] (v := (bb ((!v4)))) (E_p (by kernel_rfl)) rfl rfl ?_
   exact q_some fun h => RP_sub (by exact Sub_env ⟨.refl _, .refl _, .refl _, .refl _, trivial⟩) h
theorem s39 (x0 : RecT) (ds : List DV) (hd : List.map z1 ds = List.map z1 [.agg (e_RecT x0)]) : sp39 ds = (g_order_Begin x0).map fun r => .tup [.agg (e_OrderT r.1), .int .i64 r.2] :=
 specT_at (ea := fun (a : RecT) => [.agg (e_RecT a)]) (eb := fun (r : (OrderT × Int)) => .tup [.agg (e_OrderT r.1), .int .i64 r.2]) (g := fun (a : RecT) => g_order_Begin a) inj39 x0 hd

def t67_0 : List AIns := (⟨(some 2), (.p (.mv (.t 10))), none⟩ :: [])
def k67_0 : ACode := (.region (⟨(some 3), (.p (.foff 8 (.t 1))), none⟩ :: ⟨(some 4), (.r (.load 1 false (.t 3))), none⟩ :: ⟨(some 5), (.p (.bin .neq (.t 4) (.c (.int .i64 0)))), none⟩ :: ⟨(some 6), (.p (.mv (.t 5))), none⟩ :: ⟨(some 7), (.p (.foff 9 (.t 1))), (some (6, false))⟩ :: ⟨(some 8), (.r (.load 1 false (.t 7))), (some (6, false))⟩ :: ⟨(some 9), (.p (.bin .neq (.t 8) (.c (.int .i64 0)))), (some (6, false))⟩ :: ⟨(some 10), (.p (.pick (.t 6) (.c (.bool true)) (.t 9))), none⟩ :: t67_0))
def k67_1 : ACode := (.seq k67_0 .ret)
def cd67 : ACode := (.seq (.region (⟨(some 1), (.a (.bx (.t 0))), none⟩ :: ⟨(some 2), (.p (.mv (.c (.bool false)))), none⟩ :: [])) k67_1)
def rs67 : List ARes := [(.tmp 2)]
def af67 : AFn := ⟨cd67, rs67, 11⟩
theorem c67 : compF Try.prog 67 = some af67 := by kernel_rfl
noncomputable def g_order_pending (p_o : OrderT) : Option Bool := (some ((p_o.NewQty != 0) || (p_o.NewPrice != 0)))
noncomputable def sp67 : List DV → Option DV := specT (fun (a : OrderT) => [.agg (e_OrderT a)]) (fun (r : Bool) => .bool r) (fun (a : OrderT) => g_order_pending a)
theorem inj67 : ∀ (a b : OrderT), List.map z1 ((fun (a : OrderT) => [.agg (e_OrderT a)]) a) = List.map z1 ((fun (a : OrderT) => [.agg (e_OrderT a)]) b) → a = b := by
 intro a0 b0 h
 simp only [List.map_cons, List.map_nil, List.cons.injEq, and_true] at h
 exact (e_OrderT_inj (DV.agg.inj h))
set_option maxHeartbeats 1000000 in
theorem w67 {C : FuncId → Con} (hC : ConOk Try.prog C) : ValOk Try.prog 67 sp67 := by
 refine valT_of hC c67 _ _ _ inj67 ?_
 intro p_o
 show Imq (g_order_pending p_o) (fun _ => True) fun r => WP Try.prog C (fun _ => False) cd67 (retQ fun s => outV s rs67 = some (.bool r)) ⟨⟨11, [(0, (.val (.agg [(.int .i64 p_o.Id), (.int .i64 p_o.Account), (.int .i64 p_o.Symbol), (.int .i64 p_o.Side), (.int .i64 p_o.Qty), (.int .i64 p_o.Price), (.int .i64 p_o.Filled), (.int .i64 p_o.Phase), (.int .i64 p_o.NewQty), (.int .i64 p_o.NewPrice), (.int .i64 p_o.Version), (.bool p_o.Asked)])))]⟩, mkH []⟩
 unfold g_order_pending
 refine G_seq ?_
 refine G_region ?_
 refine G_op [1001] (v := (.box [1001] 0)) (E_a (u := (.box [1001] 0)) (b := (.box (lOrderT p_o))) (h' := [([1001], (.box (lOrderT p_o)))]) (by kernel_rfl) (by kernel_rfl) (by kernel_rfl)) rfl rfl ?_
 refine G_op [0] (v := (bb false)) (E_p (by kernel_rfl)) rfl rfl ?_
 refine G_nil ?_
 refine G_then ?_
 refine G_seq ?_
 refine G_region ?_
 refine G_op [0] (v := (.box [1001] 8)) (E_p (by kernel_rfl)) rfl rfl ?_
 refine G_op [0] (v := (ii p_o.NewQty)) (E_load (by kernel_rfl)) rfl rfl ?_
 refine G_op [0] (v := (bb ((p_o.NewQty != 0)))) (E_p (by kernel_rfl)) rfl rfl ?_
 refine G_op [0] (v := (bb ((p_o.NewQty != 0)))) (E_p (by kernel_rfl)) rfl rfl ?_
 refine G_pure (l := t67_0) (st := ⟨⟨11, [(10, (bb (((p_o.NewQty != 0) || (p_o.NewPrice != 0))))), (2, (bb false))]⟩, mkH []⟩) ?_ (fun r3 => ?_)
 ·refine G_op [0] (v := (bb (((p_o.NewQty != 0) || (p_o.NewPrice != 0))))) (E_p (by kernel_rfl)) rfl rfl ?_
  refine G_nil ?_
  refine G_then ?_
  refine G_ret ?_
  refine G_retR ?_
  refine q_some fun hA => ?_
  show outV _ _ = some _
  kernel_rfl
 ·refine q_two (p_o.NewQty != 0) (fun h1 => ?_) (fun h1 => ?_)
  ·refine G_subR (Sub_lit (t := 6) (v := true) rfl h1) ?_
   refine G_off rfl rfl ?_
   refine G_off rfl rfl ?_
   refine G_off rfl rfl ?_
   refine G_op [0] (v := (bb true)) (E_p (by kernel_rfl)) rfl rfl ?_
   exact q_some fun h => RP_sub (by exact Sub_keep ⟨(Wk_or1 h1), .refl _, trivial⟩ trivial (by kernel_rfl) (by kernel_rfl)) h
  ·refine G_subR (Sub_lit (t := 6) (v := false) rfl h1) ?_
   refine G_op [0] (v := (.box [1001] 9)) (E_p (by kernel_rfl)) rfl rfl ?_
   refine G_op [0] (v := (ii p_o.NewPrice)) (E_load (by kernel_rfl)) rfl rfl ?_
   refine G_op [0] (v := (bb ((p_o.NewPrice != 0)))) (E_p (by kernel_rfl)) rfl rfl ?_
   refine G_op [0] (v := (bb ((p_o.NewPrice != 0)))) (E_p (by kernel_rfl)) rfl rfl ?_
   exact q_some fun h => RP_sub (by exact Sub_keep ⟨(Wk_or0 h1), .refl _, trivial⟩ trivial (by kernel_rfl) (by kernel_rfl)) h
theorem s67 (x0 : OrderT) (ds : List DV) (hd : List.map z1 ds = List.map z1 [.agg (e_OrderT x0)]) : sp67 ds = (g_order_pending x0).map fun r => .bool r :=
 specT_at (ea := fun (a : OrderT) => [.agg (e_OrderT a)]) (eb := fun (r : Bool) => .bool r) (g := fun (a : OrderT) => g_order_pending a) inj67 x0 hd

def k68_0 : ACode := (.region (⟨(some 4), (.p (.foff 0 (.t 1))), none⟩ :: ⟨(some 5), (.r (.load 1 false (.t 4))), none⟩ :: ⟨(some 6), (.p (.foff 1 (.t 1))), none⟩ :: ⟨(some 7), (.r (.load 1 false (.t 6))), none⟩ :: ⟨(some 8), (.p (.foff 2 (.t 1))), none⟩ :: ⟨(some 9), (.r (.load 1 false (.t 8))), none⟩ :: ⟨(some 10), (.p (.foff 3 (.t 1))), none⟩ :: ⟨(some 11), (.r (.load 1 false (.t 10))), none⟩ :: ⟨(some 12), (.p (.foff 4 (.t 1))), none⟩ :: ⟨(some 13), (.r (.load 1 false (.t 12))), none⟩ :: ⟨(some 14), (.p (.foff 5 (.t 1))), none⟩ :: ⟨(some 15), (.r (.load 1 false (.t 14))), none⟩ :: ⟨(some 16), (.p (.build [(.int .i64 0), (.int .i64 0), (.int .i64 0), (.int .i64 0), (.int .i64 0), (.int .i64 0), (.int .i64 0), (.int .i64 0), (.int .i64 0), (.int .i64 0), (.bool false), (.int .i64 0), (.int .i64 0)] [(0, (1, (.c (.int .i64 1)))), (1, (1, (.t 5))), (2, (1, (.t 7))), (3, (1, (.t 9))), (4, (1, (.t 11))), (5, (1, (.t 13))), (6, (1, (.t 15)))])), none⟩ :: ⟨(some 3), (.a (.alloc [(.int .i64 0), (.int .i64 0), (.int .i64 0), (.int .i64 0), (.int .i64 0), (.int .i64 0), (.int .i64 0), (.int .i64 0), (.int .i64 0), (.int .i64 0), (.bool false), (.int .i64 0), (.int .i64 0)])), none⟩ :: ⟨none, (.w (.store 13 (.t 3) (.t 16))), none⟩ :: []))
def k68_1 : ACode := (.seq (.region (⟨(some 17), (.r (.load 13 true (.t 3))), none⟩ :: ⟨(some 18), (.r (.call 52 [(.t 17)])), none⟩ :: ⟨(some 2), (.p (.mv (.t 18))), none⟩ :: [])) .ret)
def k68_2 : ACode := (.seq k68_0 k68_1)
def cd68 : ACode := (.seq (.region (⟨(some 1), (.a (.bx (.t 0))), none⟩ :: ⟨(some 2), (.p (.mv (.c (.bool false)))), none⟩ :: [])) k68_2)
def rs68 : List ARes := [(.tmp 2)]
def af68 : AFn := ⟨cd68, rs68, 19⟩
theorem c68 : compF Try.prog 68 = some af68 := by kernel_rfl
noncomputable def g_order_begun (p_o : OrderT) : Option Bool := (Option.bind (g_rec_Right (RecT.mk 1 p_o.Id p_o.Account p_o.Symbol p_o.Side p_o.Qty p_o.Price 0 0 0 false 0 0)) fun v1 => (some v1))
noncomputable def sp68 : List DV → Option DV := specT (fun (a : OrderT) => [.agg (e_OrderT a)]) (fun (r : Bool) => .bool r) (fun (a : OrderT) => g_order_begun a)
theorem inj68 : ∀ (a b : OrderT), List.map z1 ((fun (a : OrderT) => [.agg (e_OrderT a)]) a) = List.map z1 ((fun (a : OrderT) => [.agg (e_OrderT a)]) b) → a = b := by
 intro a0 b0 h
 simp only [List.map_cons, List.map_nil, List.cons.injEq, and_true] at h
 exact (e_OrderT_inj (DV.agg.inj h))
set_option maxHeartbeats 1000000 in
theorem w68 {C : FuncId → Con} (hC : ConOk Try.prog C) {q52 : List DV → Option DV} (hc52 : C 52 = .val q52) (hs52 : ∀ (x0 : RecT) (ds : List DV), List.map z1 ds = List.map z1 [.agg (e_RecT x0)] → q52 ds = (g_rec_Right x0).map fun r => .bool r) : ValOk Try.prog 68 sp68 := by
 refine valT_of hC c68 _ _ _ inj68 ?_
 intro p_o
 show Imq (g_order_begun p_o) (fun _ => True) fun r => WP Try.prog C (fun _ => False) cd68 (retQ fun s => outV s rs68 = some (.bool r)) ⟨⟨19, [(0, (.val (.agg [(.int .i64 p_o.Id), (.int .i64 p_o.Account), (.int .i64 p_o.Symbol), (.int .i64 p_o.Side), (.int .i64 p_o.Qty), (.int .i64 p_o.Price), (.int .i64 p_o.Filled), (.int .i64 p_o.Phase), (.int .i64 p_o.NewQty), (.int .i64 p_o.NewPrice), (.int .i64 p_o.Version), (.bool p_o.Asked)])))]⟩, mkH []⟩
 unfold g_order_begun
 refine G_seq ?_
 refine G_region ?_
 refine G_op [1001] (v := (.box [1001] 0)) (E_a (u := (.box [1001] 0)) (b := (.box (lOrderT p_o))) (h' := [([1001], (.box (lOrderT p_o)))]) (by kernel_rfl) (by kernel_rfl) (by kernel_rfl)) rfl rfl ?_
 refine G_op [0] (v := (bb false)) (E_p (by kernel_rfl)) rfl rfl ?_
 refine G_nil ?_
 refine G_then ?_
 refine G_seq ?_
 refine G_region ?_
 refine G_op [0] (v := (.box [1001] 0)) (E_p (by kernel_rfl)) rfl rfl ?_
 refine G_op [0] (v := (ii p_o.Id)) (E_load (by kernel_rfl)) rfl rfl ?_
 refine G_op [0] (v := (.box [1001] 1)) (E_p (by kernel_rfl)) rfl rfl ?_
 refine G_op [0] (v := (ii p_o.Account)) (E_load (by kernel_rfl)) rfl rfl ?_
 refine G_op [0] (v := (.box [1001] 2)) (E_p (by kernel_rfl)) rfl rfl ?_
 refine G_op [0] (v := (ii p_o.Symbol)) (E_load (by kernel_rfl)) rfl rfl ?_
 refine G_op [0] (v := (.box [1001] 3)) (E_p (by kernel_rfl)) rfl rfl ?_
 refine G_op [0] (v := (ii p_o.Side)) (E_load (by kernel_rfl)) rfl rfl ?_
 refine G_op [0] (v := (.box [1001] 4)) (E_p (by kernel_rfl)) rfl rfl ?_
 refine G_op [0] (v := (ii p_o.Qty)) (E_load (by kernel_rfl)) rfl rfl ?_
 refine G_op [0] (v := (.box [1001] 5)) (E_p (by kernel_rfl)) rfl rfl ?_
 refine G_op [0] (v := (ii p_o.Price)) (E_load (by kernel_rfl)) rfl rfl ?_
 refine G_op [0] (v := (.agg [(ii 1), (ii p_o.Id), (ii p_o.Account), (ii p_o.Symbol), (ii p_o.Side), (ii p_o.Qty), (ii p_o.Price), (ii 0), (ii 0), (ii 0), (bb false), (ii 0), (ii 0)])) (E_p (by kernel_rfl)) rfl rfl ?_
 refine G_op [1002] (v := (.box [1002] 0)) (E_a (u := (.box [1002] 0)) (b := (.box zRecT)) (h' := [([1001], (.box (lOrderT p_o))), ([1002], (.box zRecT))]) (by kernel_rfl) (by kernel_rfl) (by kernel_rfl)) rfl rfl ?_
 refine G_op0 [0] (v := (.val (.tup []))) (E_store (b := [1002]) (o := 0) (cs := [(ii 1), (ii p_o.Id), (ii p_o.Account), (ii p_o.Symbol), (ii p_o.Side), (ii p_o.Qty), (ii p_o.Price), (ii 0), (ii 0), (ii 0), (bb false), (ii 0), (ii 0)]) (cells := zRecT) (cells' := [(ii 1), (ii p_o.Id), (ii p_o.Account), (ii p_o.Symbol), (ii p_o.Side), (ii p_o.Qty), (ii p_o.Price), (ii 0), (ii 0), (ii 0), (bb false), (ii 0), (ii 0)]) (h' := [([1001], (.box (lOrderT p_o))), ([1002], (.box [(ii 1), (ii p_o.Id), (ii p_o.Account), (ii p_o.Symbol), (ii p_o.Side), (ii p_o.Qty), (ii p_o.Price), (ii 0), (ii 0), (ii 0), (bb false), (ii 0), (ii 0)]))]) (by kernel_rfl) (by kernel_rfl) (by kernel_rfl) rfl (by kernel_rfl) (by kernel_rfl) (by kernel_rfl) (by kernel_rfl)) rfl ?_
 refine G_nil ?_
 refine G_then ?_
 refine G_subW (s0 := ⟨⟨19, [(3, (.box [1002] 0)), (2, (bb false))]⟩, mkH [([1002], (.box [(ii 1), (ii p_o.Id), (ii p_o.Account), (ii p_o.Symbol), (ii p_o.Side), (ii p_o.Qty), (ii p_o.Price), (ii 0), (ii 0), (ii 0), (bb false), (ii 0), (ii 0)]))]⟩) (by exact Sub_keep ⟨.refl _, .refl _, trivial⟩ ⟨⟨_, (by kernel_rfl), .refl _⟩, trivial⟩ (by kernel_rfl) (by kernel_rfl)) ?_
 refine G_seq ?_
 refine G_region ?_
 refine G_op [0] (v := (.agg [(ii 1), (ii p_o.Id), (ii p_o.Account), (ii p_o.Symbol), (ii p_o.Side), (ii p_o.Qty), (ii p_o.Price), (ii 0), (ii 0), (ii 0), (bb false), (ii 0), (ii 0)])) (E_load (by kernel_rfl)) rfl rfl ?_
 refine q_bind fun v1 hv1 => ?_
 refine G_op [0] (v := (bb v1)) (E_call (ds := [.agg (e_RecT (RecT.mk 1 p_o.Id p_o.Account p_o.Symbol p_o.Side p_o.Qty p_o.Price 0 0 0 false 0 0))]) (r := .bool v1) hc52 (by kernel_rfl) ((hs52 (RecT.mk 1 p_o.Id p_o.Account p_o.Symbol p_o.Side p_o.Qty p_o.Price 0 0 0 false 0 0) _ (by kernel_rfl)).trans (congrArg _ hv1))) rfl rfl ?_
 refine G_op [0] (v := (bb v1)) (E_p (by kernel_rfl)) rfl rfl ?_
 refine G_nil ?_
 refine G_then ?_
 refine G_ret ?_
 refine G_retR ?_
 refine q_some fun hA => ?_
 show outV _ _ = some _
 kernel_rfl
theorem s68 (x0 : OrderT) (ds : List DV) (hd : List.map z1 ds = List.map z1 [.agg (e_OrderT x0)]) : sp68 ds = (g_order_begun x0).map fun r => .bool r :=
 specT_at (ea := fun (a : OrderT) => [.agg (e_OrderT a)]) (eb := fun (r : Bool) => .bool r) (g := fun (a : OrderT) => g_order_begun a) inj68 x0 hd

def t41_3 : List AIns := (⟨(some 36), (.p (.pick (.t 26) (.c (.bool true)) (.t 35))), none⟩ :: [])
def t41_5 : List AIns := (⟨(some 2), (.p (.mv (.t 52))), none⟩ :: [])
def t41_4 : List AIns := (⟨(some 49), (.p (.mv (.t 48))), none⟩ :: ⟨(some 50), (.p (.mv (.t 3))), (some (49, true))⟩ :: ⟨(some 51), (.p (.un .not (.t 50))), (some (49, true))⟩ :: ⟨(some 52), (.p (.pick (.t 49) (.t 51) (.c (.bool false)))), none⟩ :: t41_5)
def t41_2 : List AIns := (⟨(some 26), (.p (.mv (.t 25))), none⟩ :: ⟨(some 27), (.p (.mv (.t 3))), (some (26, false))⟩ :: ⟨(some 28), (.p (.mv (.t 27))), (some (26, false))⟩ :: ⟨(some 29), (.p (.foff 8 (.t 1))), (some (28, true))⟩ :: ⟨(some 30), (.r (.load 1 false (.t 29))), (some (28, true))⟩ :: ⟨(some 31), (.p (.foff 9 (.t 1))), (some (28, true))⟩ :: ⟨(some 32), (.r (.load 1 false (.t 31))), (some (28, true))⟩ :: ⟨(some 33), (.p (.mnx false (.t 30) [(.t 32)])), (some (28, true))⟩ :: ⟨(some 34), (.p (.bin .lss (.t 33) (.c (.int .i64 1)))), (some (28, true))⟩ :: ⟨(some 35), (.p (.pick (.t 28) (.t 34) (.c (.bool false)))), (some (26, false))⟩ :: t41_3)
def t41_1 : List AIns := (⟨(some 21), (.p (.mv (.t 20))), none⟩ :: ⟨(some 22), (.p (.foff 10 (.t 1))), (some (21, false))⟩ :: ⟨(some 23), (.r (.load 1 false (.t 22))), (some (21, false))⟩ :: ⟨(some 24), (.p (.bin .lss (.t 23) (.c (.int .i64 0)))), (some (21, false))⟩ :: ⟨(some 25), (.p (.pick (.t 21) (.c (.bool true)) (.t 24))), none⟩ :: t41_2)
def t41_0 : List AIns := (⟨(some 14), (.p (.mv (.t 13))), none⟩ :: ⟨(some 15), (.p (.foff 6 (.t 1))), (some (14, false))⟩ :: ⟨(some 16), (.r (.load 1 false (.t 15))), (some (14, false))⟩ :: ⟨(some 17), (.p (.foff 4 (.t 1))), (some (14, false))⟩ :: ⟨(some 18), (.r (.load 1 false (.t 17))), (some (14, false))⟩ :: ⟨(some 19), (.p (.bin .gtr (.t 16) (.t 18))), (some (14, false))⟩ :: ⟨(some 20), (.p (.pick (.t 14) (.c (.bool true)) (.t 19))), none⟩ :: t41_1)
def k41_0 : ACode := (.region (⟨(some 6), (.r (.load 12 true (.t 1))), none⟩ :: ⟨(some 7), (.r (.call 68 [(.t 6)])), none⟩ :: ⟨(some 8), (.p (.un .not (.t 7))), none⟩ :: ⟨(some 9), (.p (.mv (.t 8))), none⟩ :: ⟨(some 10), (.p (.foff 6 (.t 1))), (some (9, false))⟩ :: ⟨(some 11), (.r (.load 1 false (.t 10))), (some (9, false))⟩ :: ⟨(some 12), (.p (.bin .lss (.t 11) (.c (.int .i64 0)))), (some (9, false))⟩ :: ⟨(some 13), (.p (.pick (.t 9) (.c (.bool true)) (.t 12))), none⟩ :: t41_0))
def k41_1 : ACode := (.seq k41_0 (.cond (.t 36) (.seq (.region (⟨(some 2), (.p (.mv (.c (.bool false)))), none⟩ :: [])) .ret) .skip))
def k41_2 : ACode := (.region (⟨(some 41), (.p (.foff 6 (.t 1))), none⟩ :: ⟨(some 42), (.r (.load 1 false (.t 41))), none⟩ :: ⟨(some 43), (.p (.bin .eql (.t 42) (.c (.int .i64 0)))), none⟩ :: ⟨(some 44), (.p (.mv (.t 43))), none⟩ :: ⟨(some 45), (.p (.foff 10 (.t 1))), (some (44, true))⟩ :: ⟨(some 46), (.r (.load 1 false (.t 45))), (some (44, true))⟩ :: ⟨(some 47), (.p (.bin .eql (.t 46) (.c (.int .i64 0)))), (some (44, true))⟩ :: ⟨(some 48), (.p (.pick (.t 44) (.t 47) (.c (.bool false)))), none⟩ :: t41_4))
def k41_3 : ACode := (.seq k41_2 .ret)
def k41_4 : ACode := (.region (⟨(some 55), (.p (.foff 6 (.t 1))), none⟩ :: ⟨(some 56), (.r (.load 1 false (.t 55))), none⟩ :: ⟨(some 57), (.p (.foff 4 (.t 1))), none⟩ :: ⟨(some 58), (.r (.load 1 false (.t 57))), none⟩ :: ⟨(some 59), (.p (.bin .lss (.t 56) (.t 58))), none⟩ :: ⟨(some 2), (.p (.mv (.t 59))), none⟩ :: []))
def k41_5 : ACode := (.seq k41_4 .ret)
def k41_6 : ACode := (.seq (.region (⟨(some 62), (.p (.mv (.t 3))), none⟩ :: ⟨(some 63), (.p (.un .not (.t 62))), none⟩ :: ⟨(some 2), (.p (.mv (.t 63))), none⟩ :: [])) .ret)
def k41_7 : ACode := (.cond (.t 60) k41_6 .skip)
def k41_8 : ACode := (.seq (.region (⟨(some 61), (.p (.bin .eql (.t 38) (.c (.int .i64 3)))), none⟩ :: ⟨(some 60), (.p (.mv (.t 61))), none⟩ :: [])) k41_7)
def k41_9 : ACode := (.cond (.t 53) k41_5 k41_8)
def k41_10 : ACode := (.seq (.region (⟨(some 54), (.p (.bin .eql (.t 38) (.c (.int .i64 2)))), none⟩ :: ⟨(some 53), (.p (.mv (.t 54))), none⟩ :: [])) k41_9)
def k41_11 : ACode := (.cond (.t 39) k41_3 k41_10)
def k41_12 : ACode := (.seq (.region (⟨(some 40), (.p (.bin .eql (.t 38) (.c (.int .i64 1)))), none⟩ :: ⟨(some 39), (.p (.mv (.t 40))), none⟩ :: [])) k41_11)
def k41_13 : ACode := (.block 0 k41_12)
def k41_14 : ACode := (.seq (.region (⟨(some 37), (.p (.foff 7 (.t 1))), none⟩ :: ⟨(some 38), (.r (.load 1 false (.t 37))), none⟩ :: [])) k41_13)
def k41_15 : ACode := (.seq k41_14 (.seq (.region (⟨(some 2), (.p (.mv (.c (.bool false)))), none⟩ :: [])) .ret))
def k41_16 : ACode := (.seq k41_1 k41_15)
def k41_17 : ACode := (.seq (.region (⟨(some 4), (.r (.load 12 true (.t 1))), none⟩ :: ⟨(some 5), (.r (.call 67 [(.t 4)])), none⟩ :: ⟨(some 3), (.p (.mv (.t 5))), none⟩ :: [])) k41_16)
def cd41 : ACode := (.seq (.region (⟨(some 1), (.a (.bx (.t 0))), none⟩ :: ⟨(some 2), (.p (.mv (.c (.bool false)))), none⟩ :: [])) k41_17)
def rs41 : List ARes := [(.tmp 2)]
def af41 : AFn := ⟨cd41, rs41, 64⟩
theorem c41 : compF Try.prog 41 = some af41 := by kernel_rfl
noncomputable def g_order_Right (p_o : OrderT) : Option Bool := (Option.bind (g_order_pending p_o) fun v1 => (Option.bind (g_order_begun p_o) fun v2 => (bif (((((!v2) || (decide (p_o.Filled < 0))) || (decide (p_o.Filled > p_o.Qty))) || (decide (p_o.Version < 0))) || (v1 && (decide ((if p_o.NewPrice < p_o.NewQty then p_o.NewPrice else p_o.NewQty) < 1)))) then (some false) else (bif (p_o.Phase == 1) then (some (((p_o.Filled == 0) && (p_o.Version == 0)) && (!v1))) else (bif (p_o.Phase == 2) then (some (decide (p_o.Filled < p_o.Qty))) else (bif (p_o.Phase == 3) then (some (!v1)) else (some false)))))))
noncomputable def sp41 : List DV → Option DV := specT (fun (a : OrderT) => [.agg (e_OrderT a)]) (fun (r : Bool) => .bool r) (fun (a : OrderT) => g_order_Right a)
theorem inj41 : ∀ (a b : OrderT), List.map z1 ((fun (a : OrderT) => [.agg (e_OrderT a)]) a) = List.map z1 ((fun (a : OrderT) => [.agg (e_OrderT a)]) b) → a = b := by
 intro a0 b0 h
 simp only [List.map_cons, List.map_nil, List.cons.injEq, and_true] at h
 exact (e_OrderT_inj (DV.agg.inj h))
set_option maxHeartbeats 1000000 in
theorem w41 {C : FuncId → Con} (hC : ConOk Try.prog C) {q67 : List DV → Option DV} (hc67 : C 67 = .val q67) (hs67 : ∀ (x0 : OrderT) (ds : List DV), List.map z1 ds = List.map z1 [.agg (e_OrderT x0)] → q67 ds = (g_order_pending x0).map fun r => .bool r) {q68 : List DV → Option DV} (hc68 : C 68 = .val q68) (hs68 : ∀ (x0 : OrderT) (ds : List DV), List.map z1 ds = List.map z1 [.agg (e_OrderT x0)] → q68 ds = (g_order_begun x0).map fun r => .bool r) : ValOk Try.prog 41 sp41 := by
 refine valT_of hC c41 _ _ _ inj41 ?_
 intro p_o
 show Imq (g_order_Right p_o) (fun _ => True) fun r => WP Try.prog C (fun _ => False) cd41 (retQ fun s => outV s rs41 = some (.bool r)) ⟨⟨64, [(0, (.val (.agg [(.int .i64 p_o.Id), (.int .i64 p_o.Account), (.int .i64 p_o.Symbol), (.int .i64 p_o.Side), (.int .i64 p_o.Qty), (.int .i64 p_o.Price), (.int .i64 p_o.Filled), (.int .i64 p_o.Phase), (.int .i64 p_o.NewQty), (.int .i64 p_o.NewPrice), (.int .i64 p_o.Version), (.bool p_o.Asked)])))]⟩, mkH []⟩
 unfold g_order_Right
 refine G_seq ?_
 refine G_region ?_
 refine G_op [1001] (v := (.box [1001] 0)) (E_a (u := (.box [1001] 0)) (b := (.box (lOrderT p_o))) (h' := [([1001], (.box (lOrderT p_o)))]) (by kernel_rfl) (by kernel_rfl) (by kernel_rfl)) rfl rfl ?_
 refine G_op [0] (v := (bb false)) (E_p (by kernel_rfl)) rfl rfl ?_
 refine G_nil ?_
 refine G_then ?_
 refine G_seq ?_
 refine G_region ?_
 refine G_op [0] (v := (.agg (lOrderT p_o))) (E_load (by kernel_rfl)) rfl rfl ?_
 refine q_bind fun v1 hv1 => ?_
 refine G_op [0] (v := (bb v1)) (E_call (ds := [.agg (e_OrderT p_o)]) (r := .bool v1) hc67 (by kernel_rfl) ((hs67 p_o _ (by kernel_rfl)).trans (congrArg _ hv1))) rfl rfl ?_
 refine G_op [0] (v := (bb v1)) (E_p (by kernel_rfl)) rfl rfl ?_
 refine G_nil ?_
 refine G_then ?_
 refine G_seq ?_
 refine G_seq ?_
 refine G_region ?_
 refine G_op [0] (v := (.agg (lOrderT p_o))) (E_load (by kernel_rfl)) rfl rfl ?_
 refine q_bind fun v2 hv2 => ?_
 refine G_op [0] (v := (bb v2)) (E_call (ds := [.agg (e_OrderT p_o)]) (r := .bool v2) hc68 (by kernel_rfl) ((hs68 p_o _ (by kernel_rfl)).trans (congrArg _ hv2))) rfl rfl ?_
 refine G_op [0] (v := (bb ((!v2)))) (E_p (by kernel_rfl)) rfl rfl ?_
 refine G_op [0] (v := (bb ((!v2)))) (E_p (by kernel_rfl)) rfl rfl ?_
 refine G_pure (l := t41_0) (st := ⟨⟨64, [(13, (bb (((!v2) || (decide (p_o.Filled < 0)))))), (3, (bb v1)), (2, (bb false)), (1, (.box [1001] 0))]⟩, mkH [([1001], (.box (lOrderT p_o)))]⟩) ?_ (fun r5 => ?_)
 ·refine G_op [0] (v := (bb (((!v2) || (decide (p_o.Filled < 0)))))) (E_p (by kernel_rfl)) rfl rfl ?_
  refine G_pure (l := t41_1) (st := ⟨⟨64, [(20, (bb ((((!v2) || (decide (p_o.Filled < 0))) || (decide (p_o.Filled > p_o.Qty)))))), (3, (bb v1)), (2, (bb false)), (1, (.box [1001] 0))]⟩, mkH [([1001], (.box (lOrderT p_o)))]⟩) ?_ (fun r8 => ?_)
  ·refine G_op [0] (v := (bb ((((!v2) || (decide (p_o.Filled < 0))) || (decide (p_o.Filled > p_o.Qty)))))) (E_p (by kernel_rfl)) rfl rfl ?_
   refine G_pure (l := t41_2) (st := ⟨⟨64, [(25, (bb (((((!v2) || (decide (p_o.Filled < 0))) || (decide (p_o.Filled > p_o.Qty))) || (decide (p_o.Version < 0)))))), (3, (bb v1)), (2, (bb false)), (1, (.box [1001] 0))]⟩, mkH [([1001], (.box (lOrderT p_o)))]⟩) ?_ (fun r11 => ?_)
   ·refine G_op [0] (v := (bb (((((!v2) || (decide (p_o.Filled < 0))) || (decide (p_o.Filled > p_o.Qty))) || (decide (p_o.Version < 0)))))) (E_p (by kernel_rfl)) rfl rfl ?_
    refine G_pure (l := []) (st := ⟨⟨64, [(36, (bb ((((((!v2) || (decide (p_o.Filled < 0))) || (decide (p_o.Filled > p_o.Qty))) || (decide (p_o.Version < 0))) || (v1 && (decide ((if p_o.NewPrice < p_o.NewQty then p_o.NewPrice else p_o.NewQty) < 1))))))), (3, (bb v1)), (2, (bb false)), (1, (.box [1001] 0))]⟩, mkH [([1001], (.box (lOrderT p_o)))]⟩) ?_ (fun r14 => ?_)
    ·refine G_nil ?_
     refine G_then ?_
     refine G_cond (t := (((((!v2) || (decide (p_o.Filled < 0))) || (decide (p_o.Filled > p_o.Qty))) || (decide (p_o.Version < 0))) || (v1 && (decide ((if p_o.NewPrice < p_o.NewQty then p_o.NewPrice else p_o.NewQty) < 1))))) (by kernel_rfl) (fun _ => ?_) (fun _ => ?_)
     ·refine G_seq ?_
      refine G_region ?_
      refine G_op [0] (v := (bb false)) (E_p (by kernel_rfl)) rfl rfl ?_
      refine G_nil ?_
      refine G_then ?_
      refine G_ret ?_
      refine G_thenR ?_
      refine G_retR ?_
      refine q_some fun hA => ?_
      show outV _ _ = some _
      kernel_rfl
     ·refine G_skip ?_
      refine G_then ?_
      refine G_seq ?_
      refine G_seq ?_
      refine G_region ?_
      refine G_op [0] (v := (.box [1001] 7)) (E_p (by kernel_rfl)) rfl rfl ?_
      refine G_op [0] (v := (ii p_o.Phase)) (E_load (by kernel_rfl)) rfl rfl ?_
      refine G_nil ?_
      refine G_then ?_
      refine G_block ?_
      refine G_seq ?_
      refine G_region ?_
      refine G_op [0] (v := (bb ((p_o.Phase == 1)))) (E_p (by kernel_rfl)) rfl rfl ?_
      refine G_op [0] (v := (bb ((p_o.Phase == 1)))) (E_p (by kernel_rfl)) rfl rfl ?_
      refine G_nil ?_
      refine G_then ?_
      refine G_cond (t := (p_o.Phase == 1)) (by kernel_rfl) (fun _ => ?_) (fun _ => ?_)
      ·refine G_seq ?_
       refine G_region ?_
       refine G_op [0] (v := (.box [1001] 6)) (E_p (by kernel_rfl)) rfl rfl ?_
       refine G_op [0] (v := (ii p_o.Filled)) (E_load (by kernel_rfl)) rfl rfl ?_
       refine G_op [0] (v := (bb ((p_o.Filled == 0)))) (E_p (by kernel_rfl)) rfl rfl ?_
       refine G_op [0] (v := (bb ((p_o.Filled == 0)))) (E_p (by kernel_rfl)) rfl rfl ?_
       refine G_pure (l := t41_4) (st := ⟨⟨64, [(48, (bb (((p_o.Filled == 0) && (p_o.Version == 0))))), (3, (bb v1)), (2, (bb false))]⟩, mkH []⟩) ?_ (fun r17 => ?_)
       ·refine G_op [0] (v := (bb (((p_o.Filled == 0) && (p_o.Version == 0))))) (E_p (by kernel_rfl)) rfl rfl ?_
        refine G_pure (l := t41_5) (st := ⟨⟨64, [(52, (bb ((((p_o.Filled == 0) && (p_o.Version == 0)) && (!v1))))), (2, (bb false))]⟩, mkH []⟩) ?_ (fun r20 => ?_)
        ·refine G_op [0] (v := (bb ((((p_o.Filled == 0) && (p_o.Version == 0)) && (!v1))))) (E_p (by kernel_rfl)) rfl rfl ?_
         refine G_nil ?_
         refine G_then ?_
         refine G_ret ?_
         refine G_inBR ?_
         refine G_thenR ?_
         refine G_retR ?_
         refine q_some fun hA => ?_
         show outV _ _ = some _
         kernel_rfl
        ·refine q_two ((p_o.Filled == 0) && (p_o.Version == 0)) (fun h18 => ?_) (fun h18 => ?_)
         ·refine G_subR (Sub_lit (t := 49) (v := true) rfl h18) ?_
          refine G_op [0] (v := (bb v1)) (E_p (by kernel_rfl)) rfl rfl ?_
          refine G_op [0] (v := (bb ((!v1)))) (E_p (by kernel_rfl)) rfl rfl ?_
          refine G_op [0] (v := (bb ((!v1)))) (E_p (by kernel_rfl)) rfl rfl ?_
          exact q_some fun h => RP_sub (by exact Sub_env ⟨(Wk_and1 h18), .refl _, trivial⟩) h
         ·refine G_subR (Sub_lit (t := 49) (v := false) rfl h18) ?_
          refine G_off rfl rfl ?_
          refine G_off rfl rfl ?_
          refine G_op [0] (v := (bb false)) (E_p (by kernel_rfl)) rfl rfl ?_
          exact q_some fun h => RP_sub (by exact Sub_env ⟨(Wk_and0 h18), .refl _, trivial⟩) h
       ·refine q_two (p_o.Filled == 0) (fun h15 => ?_) (fun h15 => ?_)
        ·refine G_subR (Sub_lit (t := 44) (v := true) rfl h15) ?_
         refine G_op [0] (v := (.box [1001] 10)) (E_p (by kernel_rfl)) rfl rfl ?_
         refine G_op [0] (v := (ii p_o.Version)) (E_load (by kernel_rfl)) rfl rfl ?_
         refine G_op [0] (v := (bb ((p_o.Version == 0)))) (E_p (by kernel_rfl)) rfl rfl ?_
         refine G_op [0] (v := (bb ((p_o.Version == 0)))) (E_p (by kernel_rfl)) rfl rfl ?_
         exact q_some fun h => RP_sub (by exact Sub_keep ⟨(Wk_and1 h15), .refl _, .refl _, trivial⟩ trivial (by kernel_rfl) (by kernel_rfl)) h
        ·refine G_subR (Sub_lit (t := 44) (v := false) rfl h15) ?_
         refine G_off rfl rfl ?_
         refine G_off rfl rfl ?_
         refine G_off rfl rfl ?_
         refine G_op [0] (v := (bb false)) (E_p (by kernel_rfl)) rfl rfl ?_
         exact q_some fun h => RP_sub (by exact Sub_keep ⟨(Wk_and0 h15), .refl _, .refl _, trivial⟩ trivial (by kernel_rfl) (by kernel_rfl)) h
      ·refine G_seq ?_
       refine G_region ?_
       refine G_op [0] (v := (bb ((p_o.Phase == 2)))) (E_p (by kernel_rfl)) rfl rfl ?_
       refine G_op [0] (v := (bb ((p_o.Phase == 2)))) (E_p (by kernel_rfl)) rfl rfl ?_
       refine G_nil ?_
       refine G_then ?_
       refine G_cond (t := (p_o.Phase == 2)) (by kernel_rfl) (fun _ => ?_) (fun _ => ?_)
       ·refine G_seq ?_
        refine G_region ?_
        refine G_op [0] (v := (.box [1001] 6)) (E_p (by kernel_rfl)) rfl rfl ?_
        refine G_op [0] (v := (ii p_o.Filled)) (E_load (by kernel_rfl)) rfl rfl ?_
        refine G_op [0] (v := (.box [1001] 4)) (E_p (by kernel_rfl)) rfl rfl ?_
        refine G_op [0] (v := (ii p_o.Qty)) (E_load (by kernel_rfl)) rfl rfl ?_
        refine G_op [0] (v := (bb ((decide (p_o.Filled < p_o.Qty))))) (E_p (by kernel_rfl)) rfl rfl ?_
        refine G_op [0] (v := (bb ((decide (p_o.Filled < p_o.Qty))))) (E_p (by kernel_rfl)) rfl rfl ?_
        refine G_nil ?_
        refine G_then ?_
        refine G_subW (s0 := ⟨⟨64, [(2, (bb ((decide (p_o.Filled < p_o.Qty)))))]⟩, mkH []⟩) (by exact Sub_keep ⟨.refl _, trivial⟩ trivial (by kernel_rfl) (by kernel_rfl)) ?_
        refine G_ret ?_
        refine G_inBR ?_
        refine G_thenR ?_
        refine G_retR ?_
        refine q_some fun hA => ?_
        show outV _ _ = some _
        kernel_rfl
       ·refine G_seq ?_
        refine G_region ?_
        refine G_op [0] (v := (bb ((p_o.Phase == 3)))) (E_p (by kernel_rfl)) rfl rfl ?_
        refine G_op [0] (v := (bb ((p_o.Phase == 3)))) (E_p (by kernel_rfl)) rfl rfl ?_
        refine G_nil ?_
        refine G_then ?_
        refine G_subW (s0 := ⟨⟨64, [(60, (bb ((p_o.Phase == 3)))), (3, (bb v1)), (2, (bb false))]⟩, mkH []⟩) (by exact Sub_keep ⟨.refl _, .refl _, .refl _, trivial⟩ trivial (by kernel_rfl) (by kernel_rfl)) ?_
        refine G_cond (t := (p_o.Phase == 3)) (by kernel_rfl) (fun _ => ?_) (fun _ => ?_)
        ·refine G_seq ?_
         refine G_region ?_
         refine G_op [0] (v := (bb v1)) (E_p (by kernel_rfl)) rfl rfl ?_
         refine G_op [0] (v := (bb ((!v1)))) (E_p (by kernel_rfl)) rfl rfl ?_
         refine G_op [0] (v := (bb ((!v1)))) (E_p (by kernel_rfl)) rfl rfl ?_
         refine G_nil ?_
         refine G_then ?_
         refine G_ret ?_
         refine G_inBR ?_
         refine G_thenR ?_
         refine G_retR ?_
         refine q_some fun hA => ?_
         show outV _ _ = some _
         kernel_rfl
        ·refine G_skip ?_
         refine G_inB ?_
         refine G_then ?_
         refine G_seq ?_
         refine G_region ?_
         refine G_op [0] (v := (bb false)) (E_p (by kernel_rfl)) rfl rfl ?_
         refine G_nil ?_
         refine G_then ?_
         refine G_ret ?_
         refine G_retR ?_
         refine q_some fun hA => ?_
         show outV _ _ = some _
         kernel_rfl
    ·refine q_two ((((!v2) || (decide (p_o.Filled < 0))) || (decide (p_o.Filled > p_o.Qty))) || (decide (p_o.Version < 0))) (fun h12 => ?_) (fun h12 => ?_)
     ·refine G_subR (Sub_lit (t := 26) (v := true) rfl h12) ?_
      refine G_off rfl rfl ?_
      refine G_off rfl rfl ?_
      refine G_off rfl rfl ?_
      refine G_off rfl rfl ?_
      refine G_off rfl rfl ?_
      refine G_off rfl rfl ?_
      refine G_off rfl rfl ?_
      refine G_off rfl rfl ?_
      refine G_off rfl rfl ?_
      refine G_op [0] (v := (bb true)) (E_p (by kernel_rfl)) rfl rfl ?_
      exact q_some fun h => RP_sub (by exact Sub_env ⟨(Wk_or1 h12), .refl _, .refl _, .refl _, trivial⟩) h
     ·refine G_subR (Sub_lit (t := 26) (v := false) rfl h12) ?_
      refine G_op [0] (v := (bb v1)) (E_p (by kernel_rfl)) rfl rfl ?_
      refine G_op [0] (v := (bb v1)) (E_p (by kernel_rfl)) rfl rfl ?_
      refine G_pure (l := t41_3) (st := ⟨⟨64, [(35, (bb ((v1 && (decide ((if p_o.NewPrice < p_o.NewQty then p_o.NewPrice else p_o.NewQty) < 1)))))), (26, (bb false)), (3, (bb v1)), (2, (bb false)), (1, (.box [1001] 0))]⟩, mkH [([1001], (.box (lOrderT p_o)))]⟩) ?_ (fun r23 => ?_)
      ·refine G_op [0] (v := (bb ((v1 && (decide ((if p_o.NewPrice < p_o.NewQty then p_o.NewPrice else p_o.NewQty) < 1)))))) (E_p (by kernel_rfl)) rfl rfl ?_
       exact q_some fun h => RP_sub (by exact Sub_env ⟨(Wk_or0 h12), .refl _, .refl _, .refl _, trivial⟩) h
      ·refine q_two v1 (fun h21 => ?_) (fun h21 => ?_)
       ·refine G_subR (Sub_lit (t := 28) (v := true) rfl h21) ?_
        refine G_op [0] (v := (.box [1001] 8)) (E_p (by kernel_rfl)) rfl rfl ?_
        refine G_op [0] (v := (ii p_o.NewQty)) (E_load (by kernel_rfl)) rfl rfl ?_
        refine G_op [0] (v := (.box [1001] 9)) (E_p (by kernel_rfl)) rfl rfl ?_
        refine G_op [0] (v := (ii p_o.NewPrice)) (E_load (by kernel_rfl)) rfl rfl ?_
        refine G_op [0] (v := (ii ((if p_o.NewPrice < p_o.NewQty then p_o.NewPrice else p_o.NewQty)))) (E_p (by kernel_rfl)) rfl rfl ?_
        refine G_op [0] (v := (bb ((decide ((if p_o.NewPrice < p_o.NewQty then p_o.NewPrice else p_o.NewQty) < 1))))) (E_p (by kernel_rfl)) rfl rfl ?_
        refine G_op [0] (v := (bb ((decide ((if p_o.NewPrice < p_o.NewQty then p_o.NewPrice else p_o.NewQty) < 1))))) (E_p (by kernel_rfl)) rfl rfl ?_
        exact q_some fun h => RP_sub (by exact Sub_env ⟨(Wk_and1 h21), .refl _, .refl _, .refl _, .refl _, trivial⟩) h
       ·refine G_subR (Sub_lit (t := 28) (v := false) rfl h21) ?_
        refine G_off rfl rfl ?_
        refine G_off rfl rfl ?_
        refine G_off rfl rfl ?_
        refine G_off rfl rfl ?_
        refine G_off rfl rfl ?_
        refine G_off rfl rfl ?_
        refine G_op [0] (v := (bb false)) (E_p (by kernel_rfl)) rfl rfl ?_
        exact q_some fun h => RP_sub (by exact Sub_env ⟨(Wk_and0 h21), .refl _, .refl _, .refl _, .refl _, trivial⟩) h
   ·refine q_two (((!v2) || (decide (p_o.Filled < 0))) || (decide (p_o.Filled > p_o.Qty))) (fun h9 => ?_) (fun h9 => ?_)
    ·refine G_subR (Sub_lit (t := 21) (v := true) rfl h9) ?_
     refine G_off rfl rfl ?_
     refine G_off rfl rfl ?_
     refine G_off rfl rfl ?_
     refine G_op [0] (v := (bb true)) (E_p (by kernel_rfl)) rfl rfl ?_
     exact q_some fun h => RP_sub (by exact Sub_env ⟨(Wk_or1 h9), .refl _, .refl _, .refl _, trivial⟩) h
    ·refine G_subR (Sub_lit (t := 21) (v := false) rfl h9) ?_
     refine G_op [0] (v := (.box [1001] 10)) (E_p (by kernel_rfl)) rfl rfl ?_
     refine G_op [0] (v := (ii p_o.Version)) (E_load (by kernel_rfl)) rfl rfl ?_
     refine G_op [0] (v := (bb ((decide (p_o.Version < 0))))) (E_p (by kernel_rfl)) rfl rfl ?_
     refine G_op [0] (v := (bb ((decide (p_o.Version < 0))))) (E_p (by kernel_rfl)) rfl rfl ?_
     exact q_some fun h => RP_sub (by exact Sub_env ⟨(Wk_or0 h9), .refl _, .refl _, .refl _, trivial⟩) h
  ·refine q_two ((!v2) || (decide (p_o.Filled < 0))) (fun h6 => ?_) (fun h6 => ?_)
   ·refine G_subR (Sub_lit (t := 14) (v := true) rfl h6) ?_
    refine G_off rfl rfl ?_
    refine G_off rfl rfl ?_
    refine G_off rfl rfl ?_
    refine G_off rfl rfl ?_
    refine G_off rfl rfl ?_
    refine G_op [0] (v := (bb true)) (E_p (by kernel_rfl)) rfl rfl ?_
    exact q_some fun h => RP_sub (by exact Sub_env ⟨(Wk_or1 h6), .refl _, .refl _, .refl _, trivial⟩) h
   ·refine G_subR (Sub_lit (t := 14) (v := false) rfl h6) ?_
    refine G_op [0] (v := (.box [1001] 6)) (E_p (by kernel_rfl)) rfl rfl ?_
    refine G_op [0] (v := (ii p_o.Filled)) (E_load (by kernel_rfl)) rfl rfl ?_
    refine G_op [0] (v := (.box [1001] 4)) (E_p (by kernel_rfl)) rfl rfl ?_
    refine G_op [0] (v := (ii p_o.Qty)) (E_load (by kernel_rfl)) rfl rfl ?_
    refine G_op [0] (v := (bb ((decide (p_o.Filled > p_o.Qty))))) (E_p (by kernel_rfl)) rfl rfl ?_
    refine G_op [0] (v := (bb ((decide (p_o.Filled > p_o.Qty))))) (E_p (by kernel_rfl)) rfl rfl ?_
    exact q_some fun h => RP_sub (by exact Sub_env ⟨(Wk_or0 h6), .refl _, .refl _, .refl _, trivial⟩) h
 ·refine q_two (!v2) (fun h3 => ?_) (fun h3 => ?_)
  ·refine G_subR (Sub_lit (t := 9) (v := true) rfl h3) ?_
   refine G_off rfl rfl ?_
   refine G_off rfl rfl ?_
   refine G_off rfl rfl ?_
   refine G_op [0] (v := (bb true)) (E_p (by kernel_rfl)) rfl rfl ?_
   exact q_some fun h => RP_sub (by exact Sub_env ⟨(Wk_or1 h3), .refl _, .refl _, .refl _, trivial⟩) h
  ·refine G_subR (Sub_lit (t := 9) (v := false) rfl h3) ?_
   refine G_op [0] (v := (.box [1001] 6)) (E_p (by kernel_rfl)) rfl rfl ?_
   refine G_op [0] (v := (ii p_o.Filled)) (E_load (by kernel_rfl)) rfl rfl ?_
   refine G_op [0] (v := (bb ((decide (p_o.Filled < 0))))) (E_p (by kernel_rfl)) rfl rfl ?_
   refine G_op [0] (v := (bb ((decide (p_o.Filled < 0))))) (E_p (by kernel_rfl)) rfl rfl ?_
   exact q_some fun h => RP_sub (by exact Sub_env ⟨(Wk_or0 h3), .refl _, .refl _, .refl _, trivial⟩) h
theorem s41 (x0 : OrderT) (ds : List DV) (hd : List.map z1 ds = List.map z1 [.agg (e_OrderT x0)]) : sp41 ds = (g_order_Right x0).map fun r => .bool r :=
 specT_at (ea := fun (a : OrderT) => [.agg (e_OrderT a)]) (eb := fun (r : Bool) => .bool r) (g := fun (a : OrderT) => g_order_Right a) inj41 x0 hd

def k69_0 : ACode := (.region (⟨(some 3), (.p (.foff 0 (.t 1))), none⟩ :: ⟨(some 4), (.r (.load 1 false (.t 3))), none⟩ :: ⟨(some 5), (.p (.foff 1 (.t 1))), none⟩ :: ⟨(some 6), (.r (.load 1 false (.t 5))), none⟩ :: ⟨(some 7), (.p (.foff 2 (.t 1))), none⟩ :: ⟨(some 8), (.r (.load 1 false (.t 7))), none⟩ :: ⟨(some 9), (.p (.foff 3 (.t 1))), none⟩ :: ⟨(some 10), (.r (.load 1 false (.t 9))), none⟩ :: ⟨(some 11), (.p (.foff 4 (.t 1))), none⟩ :: ⟨(some 12), (.r (.load 1 false (.t 11))), none⟩ :: ⟨(some 13), (.p (.build [(.int .i64 0), (.int .i64 0), (.int .i64 0), (.int .i64 0), (.int .i64 0), (.int .i64 0), (.int .i64 0), (.int .i64 0), (.int .i64 0), (.int .i64 0), (.bool false), (.int .i64 0), (.int .i64 0)] [(0, (1, (.c (.int .i64 6)))), (11, (1, (.t 4))), (12, (1, (.t 6))), (1, (1, (.t 8))), (5, (1, (.t 10))), (6, (1, (.t 12)))])), none⟩ :: ⟨none, (.w (.store 13 (.t 2) (.t 13))), none⟩ :: []))
def k69_1 : ACode := (.seq k69_0 .ret)
def cd69 : ACode := (.seq (.region (⟨(some 1), (.a (.bx (.t 0))), none⟩ :: ⟨(some 2), (.a (.alloc [(.int .i64 0), (.int .i64 0), (.int .i64 0), (.int .i64 0), (.int .i64 0), (.int .i64 0), (.int .i64 0), (.int .i64 0), (.int .i64 0), (.int .i64 0), (.bool false), (.int .i64 0), (.int .i64 0)])), none⟩ :: [])) k69_1)
def rs69 : List ARes := [(.cell 2 13 true)]
def af69 : AFn := ⟨cd69, rs69, 14⟩
theorem c69 : compF Try.prog 69 = some af69 := by kernel_rfl
noncomputable def g_rec_OfNote (p_n : NoteT) : Option RecT := (some (RecT.mk 6 p_n.Order 0 0 0 p_n.Qty p_n.Price 0 0 0 false p_n.Seq p_n.What))
noncomputable def sp69 : List DV → Option DV := specT (fun (a : NoteT) => [.agg (e_NoteT a)]) (fun (r : RecT) => .agg (e_RecT r)) (fun (a : NoteT) => g_rec_OfNote a)
theorem inj69 : ∀ (a b : NoteT), List.map z1 ((fun (a : NoteT) => [.agg (e_NoteT a)]) a) = List.map z1 ((fun (a : NoteT) => [.agg (e_NoteT a)]) b) → a = b := by
 intro a0 b0 h
 simp only [List.map_cons, List.map_nil, List.cons.injEq, and_true] at h
 exact (e_NoteT_inj (DV.agg.inj h))
set_option maxHeartbeats 1000000 in
theorem w69 {C : FuncId → Con} (hC : ConOk Try.prog C) : ValOk Try.prog 69 sp69 := by
 refine valT_of hC c69 _ _ _ inj69 ?_
 intro p_n
 show Imq (g_rec_OfNote p_n) (fun _ => True) fun r => WP Try.prog C (fun _ => False) cd69 (retQ fun s => outV s rs69 = some (.agg (e_RecT r))) ⟨⟨14, [(0, (.val (.agg [(.int .i64 p_n.Seq), (.int .i64 p_n.What), (.int .i64 p_n.Order), (.int .i64 p_n.Qty), (.int .i64 p_n.Price)])))]⟩, mkH []⟩
 unfold g_rec_OfNote
 refine G_seq ?_
 refine G_region ?_
 refine G_op [1001] (v := (.box [1001] 0)) (E_a (u := (.box [1001] 0)) (b := (.box (lNoteT p_n))) (h' := [([1001], (.box (lNoteT p_n)))]) (by kernel_rfl) (by kernel_rfl) (by kernel_rfl)) rfl rfl ?_
 refine G_op [1002] (v := (.box [1002] 0)) (E_a (u := (.box [1002] 0)) (b := (.box zRecT)) (h' := [([1001], (.box (lNoteT p_n))), ([1002], (.box zRecT))]) (by kernel_rfl) (by kernel_rfl) (by kernel_rfl)) rfl rfl ?_
 refine G_nil ?_
 refine G_then ?_
 refine G_seq ?_
 refine G_region ?_
 refine G_op [0] (v := (.box [1001] 0)) (E_p (by kernel_rfl)) rfl rfl ?_
 refine G_op [0] (v := (ii p_n.Seq)) (E_load (by kernel_rfl)) rfl rfl ?_
 refine G_op [0] (v := (.box [1001] 1)) (E_p (by kernel_rfl)) rfl rfl ?_
 refine G_op [0] (v := (ii p_n.What)) (E_load (by kernel_rfl)) rfl rfl ?_
 refine G_op [0] (v := (.box [1001] 2)) (E_p (by kernel_rfl)) rfl rfl ?_
 refine G_op [0] (v := (ii p_n.Order)) (E_load (by kernel_rfl)) rfl rfl ?_
 refine G_op [0] (v := (.box [1001] 3)) (E_p (by kernel_rfl)) rfl rfl ?_
 refine G_op [0] (v := (ii p_n.Qty)) (E_load (by kernel_rfl)) rfl rfl ?_
 refine G_op [0] (v := (.box [1001] 4)) (E_p (by kernel_rfl)) rfl rfl ?_
 refine G_op [0] (v := (ii p_n.Price)) (E_load (by kernel_rfl)) rfl rfl ?_
 refine G_op [0] (v := (.agg [(ii 6), (ii p_n.Order), (ii 0), (ii 0), (ii 0), (ii p_n.Qty), (ii p_n.Price), (ii 0), (ii 0), (ii 0), (bb false), (ii p_n.Seq), (ii p_n.What)])) (E_p (by kernel_rfl)) rfl rfl ?_
 refine G_op0 [0] (v := (.val (.tup []))) (E_store (b := [1002]) (o := 0) (cs := [(ii 6), (ii p_n.Order), (ii 0), (ii 0), (ii 0), (ii p_n.Qty), (ii p_n.Price), (ii 0), (ii 0), (ii 0), (bb false), (ii p_n.Seq), (ii p_n.What)]) (cells := zRecT) (cells' := [(ii 6), (ii p_n.Order), (ii 0), (ii 0), (ii 0), (ii p_n.Qty), (ii p_n.Price), (ii 0), (ii 0), (ii 0), (bb false), (ii p_n.Seq), (ii p_n.What)]) (h' := [([1001], (.box (lNoteT p_n))), ([1002], (.box [(ii 6), (ii p_n.Order), (ii 0), (ii 0), (ii 0), (ii p_n.Qty), (ii p_n.Price), (ii 0), (ii 0), (ii 0), (bb false), (ii p_n.Seq), (ii p_n.What)]))]) (by kernel_rfl) (by kernel_rfl) (by kernel_rfl) rfl (by kernel_rfl) (by kernel_rfl) (by kernel_rfl) (by kernel_rfl)) rfl ?_
 refine G_nil ?_
 refine G_then ?_
 refine G_subW (s0 := ⟨⟨14, [(2, (.box [1002] 0))]⟩, mkH [([1002], (.box [(ii 6), (ii p_n.Order), (ii 0), (ii 0), (ii 0), (ii p_n.Qty), (ii p_n.Price), (ii 0), (ii 0), (ii 0), (bb false), (ii p_n.Seq), (ii p_n.What)]))]⟩) (by exact Sub_keep ⟨.refl _, trivial⟩ ⟨⟨_, (by kernel_rfl), .refl _⟩, trivial⟩ (by kernel_rfl) (by kernel_rfl)) ?_
 refine G_ret ?_
 refine G_retR ?_
 refine q_some fun hA => ?_
 show outV _ _ = some _
 kernel_rfl
theorem s69 (x0 : NoteT) (ds : List DV) (hd : List.map z1 ds = List.map z1 [.agg (e_NoteT x0)]) : sp69 ds = (g_rec_OfNote x0).map fun r => .agg (e_RecT r) :=
 specT_at (ea := fun (a : NoteT) => [.agg (e_NoteT a)]) (eb := fun (r : RecT) => .agg (e_RecT r)) (g := fun (a : NoteT) => g_rec_OfNote a) inj69 x0 hd
end Go.AI
