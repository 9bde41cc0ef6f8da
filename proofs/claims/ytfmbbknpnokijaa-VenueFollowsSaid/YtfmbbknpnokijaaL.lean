/- What Go functions come to, as functions of data with a kind; printed by a program, with the proof that the given functions answer just that. -/
import Derived.Test.YtfmbbknpnokijaaLF
import Derived.Test.YtfmbbknpnokijaaProg
namespace Go.AI
open Go.Proofs
set_option linter.unusedVariables false
abbrev BoundsErrorT := (Int × (Int × (Bool × (Int × Unit))))
abbrev shBoundsError : Sh := (.cons (.int .i64) (.cons (.int .i64) (.cons .bool (.cons (.int .u8) .nil))))
abbrev DeedT := (Int × (Int × (Int × (Int × (Bool × Unit)))))
abbrev shDeed : Sh := (.cons (.int .u8) (.cons (.int .u8) (.cons (.int .u8) (.cons (.int .u8) (.cons .bool .nil)))))
abbrev NoteT := (Int × (Int × (Int × (Int × (Int × Unit)))))
abbrev shNote : Sh := (.cons (.int .i64) (.cons (.int .i64) (.cons (.int .i64) (.cons (.int .i64) (.cons (.int .i64) .nil)))))
abbrev MsgT := (Int × (Int × (Int × (Int × NoteT))))
abbrev shMsg : Sh := (.cons (.int .i64) (.cons (.int .i64) (.cons (.int .i64) (.cons (.int .i64) shNote))))
abbrev OrderT := (Int × (Int × (Int × (Int × (Int × (Int × (Int × DeedT)))))))
abbrev shOrder : Sh := (.cons (.int .i64) (.cons (.int .i64) (.cons (.int .i64) (.cons (.int .i64) (.cons (.int .i64) (.cons (.int .i64) (.cons (.int .i64) (.cons (.int .i64) (.cons (.int .i64) (.cons (.int .i64) (.cons (.int .i64) (.cons .bool .nil))))))))))))
abbrev RecT := (Int × (Int × (Int × (Int × (Int × (Int × (Int × (Int × (Int × (Int × (Bool × (Int × (Int × Unit)))))))))))))
abbrev shRec : Sh := (.cons (.int .i64) (.cons (.int .i64) (.cons (.int .i64) (.cons (.int .i64) (.cons (.int .i64) (.cons (.int .i64) (.cons (.int .i64) (.cons (.int .i64) (.cons (.int .i64) (.cons (.int .i64) (.cons .bool (.cons (.int .i64) (.cons (.int .i64) .nil)))))))))))))
abbrev VenueT := ((List MsgT) × ((List OrderT) × ((List NoteT) × Unit)))
abbrev shVenue : Sh := (.cons (.slice 9 shMsg) (.cons (.slice 12 shOrder) (.cons (.slice 5 shNote) .nil)))
def hnL : List (Nat × List (Nat × Hint)) := [(55, [(0, .j [⟨.b 3 [], [.v (.int .i64), .v (.int .i64), .v (.int .i64), .v (.int .i64), .v (.int .i64), .v (.int .i64), .v (.int .i64), .v (.int .i64), .v (.int .i64), .v (.int .i64), .v .bool, .v (.int .i64), .v (.int .i64)]⟩]), (4, .j [⟨.b 3 [], [.v (.int .i64), .v (.int .i64), .v (.int .i64), .v (.int .i64), .v (.int .i64), .v (.int .i64), .v (.int .i64), .v (.int .i64), .v (.int .i64), .v (.int .i64), .v .bool, .v (.int .i64), .v (.int .i64)]⟩]), (5, .j [⟨.b 3 [], [.v (.int .i64), .v (.int .i64), .v (.int .i64), .v (.int .i64), .v (.int .i64), .v (.int .i64), .v (.int .i64), .v (.int .i64), .v (.int .i64), .v (.int .i64), .v .bool, .v (.int .i64), .v (.int .i64)]⟩])]),
 (59, [(4, .j [⟨.t 33, [.v .bool]⟩]), (5, .j [⟨.t 33, [.v .bool]⟩]), (6, .j [⟨.t 33, [.v .bool]⟩])]),
 (54, [(0, .j [⟨.b 2 [], [.v (.int .i64), .v (.int .i64), .v (.int .i64), .v (.int .i64), .v (.int .i64), .v (.int .i64), .v (.int .i64), .v (.int .i64), .v (.int .i64), .v (.int .i64), .v (.int .i64), .v .bool]⟩, ⟨.b 4 [], [.v (.int .i64), .v (.int .i64), .v (.int .i64), .v (.int .i64), .v (.int .i64), .v (.int .i64), .v (.int .i64), .v (.int .i64), .v (.int .i64), .v (.int .i64), .v (.int .i64), .v .bool]⟩]), (3, .j [⟨.b 2 [], [.v (.int .i64), .v (.int .i64), .v (.int .i64), .v (.int .i64), .v (.int .i64), .v (.int .i64), .v (.int .i64), .v (.int .i64), .v (.int .i64), .v (.int .i64), .v (.int .i64), .v .bool]⟩, ⟨.b 4 [], [.v (.int .i64), .v (.int .i64), .v (.int .i64), .v (.int .i64), .v (.int .i64), .v (.int .i64), .v (.int .i64), .v (.int .i64), .v (.int .i64), .v (.int .i64), .v (.int .i64), .v .bool]⟩])]),
 (25, [(1, .j [⟨.t 16, [.v .bool]⟩]), (2, .j [⟨.t 16, [.v .bool]⟩]), (3, .j [⟨.t 16, [.v .bool]⟩]), (5, .j [⟨.t 27, [.v .bool]⟩]), (6, .j [⟨.t 27, [.v .bool]⟩])]),
 (26, [(2, .j [⟨.t 7, [.v .bool]⟩, ⟨.b 2 [], [.v (.int .i64), .v (.int .i64), .v (.int .i64), .v (.int .i64), .v (.int .i64), .v (.int .i64), .v (.int .i64), .v (.int .i64), .v (.int .i64), .v (.int .i64), .v (.int .i64), .v .bool]⟩]), (3, .j [⟨.t 7, [.v .bool]⟩, ⟨.b 2 [], [.v (.int .i64), .v (.int .i64), .v (.int .i64), .v (.int .i64), .v (.int .i64), .v (.int .i64), .v (.int .i64), .v (.int .i64), .v (.int .i64), .v (.int .i64), .v (.int .i64), .v .bool]⟩])]),
 (8, [(1, .j []), (2, .j [⟨.t 26, [.v (.int .i64)]⟩]), (6, .j []), (7, .j [⟨.t 46, [.v (.int .i64)]⟩])]),
 (14, [(1, .j [⟨.t 6, [.v .bool]⟩])]),
 (17, [(3, .j [⟨.t 20, [.v .bool]⟩])]),
 (32, [(1, .j [⟨.t 4, [.v .bool]⟩, ⟨.b 3 [], [.v (.int .i64), .v (.int .i64), .v (.int .i64), .v (.int .i64), .v (.int .i64), .v (.int .i64), .v (.int .i64), .v (.int .i64), .v (.int .i64), .v (.int .i64), .v .bool, .v (.int .i64), .v (.int .i64)]⟩]), (2, .j [⟨.t 4, [.v .bool]⟩, ⟨.b 3 [], [.v (.int .i64), .v (.int .i64), .v (.int .i64), .v (.int .i64), .v (.int .i64), .v (.int .i64), .v (.int .i64), .v (.int .i64), .v (.int .i64), .v (.int .i64), .v .bool, .v (.int .i64), .v (.int .i64)]⟩]), (3, .j [⟨.t 4, [.v .bool]⟩, ⟨.b 3 [], [.v (.int .i64), .v (.int .i64), .v (.int .i64), .v (.int .i64), .v (.int .i64), .v (.int .i64), .v (.int .i64), .v (.int .i64), .v (.int .i64), .v (.int .i64), .v .bool, .v (.int .i64), .v (.int .i64)]⟩]), (4, .j [⟨.t 4, [.v .bool]⟩, ⟨.b 3 [], [.v (.int .i64), .v (.int .i64), .v (.int .i64), .v (.int .i64), .v (.int .i64), .v (.int .i64), .v (.int .i64), .v (.int .i64), .v (.int .i64), .v (.int .i64), .v .bool, .v (.int .i64), .v (.int .i64)]⟩]), (5, .j [⟨.t 4, [.v .bool]⟩]), (6, .j [⟨.t 4, [.v .bool]⟩, ⟨.b 3 [], [.v (.int .i64), .v (.int .i64), .v (.int .i64), .v (.int .i64), .v (.int .i64), .v (.int .i64), .v (.int .i64), .v (.int .i64), .v (.int .i64), .v (.int .i64), .v .bool, .v (.int .i64), .v (.int .i64)]⟩]), (7, .j [⟨.t 4, [.v .bool]⟩, ⟨.b 3 [], [.v (.int .i64), .v (.int .i64), .v (.int .i64), .v (.int .i64), .v (.int .i64), .v (.int .i64), .v (.int .i64), .v (.int .i64), .v (.int .i64), .v (.int .i64), .v .bool, .v (.int .i64), .v (.int .i64)]⟩]), (8, .j [⟨.t 4, [.v .bool]⟩, ⟨.b 3 [], [.v (.int .i64), .v (.int .i64), .v (.int .i64), .v (.int .i64), .v (.int .i64), .v (.int .i64), .v (.int .i64), .v (.int .i64), .v (.int .i64), .v (.int .i64), .v .bool, .v (.int .i64), .v (.int .i64)]⟩]), (9, .j [⟨.t 4, [.v .bool]⟩, ⟨.b 3 [], [.v (.int .i64), .v (.int .i64), .v (.int .i64), .v (.int .i64), .v (.int .i64), .v (.int .i64), .v (.int .i64), .v (.int .i64), .v (.int .i64), .v (.int .i64), .v .bool, .v (.int .i64), .v (.int .i64)]⟩])]),
 (9, [(1, .j []), (2, .j [⟨.t 3, [.v (.int .i64)]⟩]), (6, .j []), (7, .j [⟨.t 4, [.v (.int .i64)]⟩]), (11, .j []), (12, .j [⟨.t 5, [.v (.int .i64)]⟩])]),
 (13, [(0, .j []), (1, .j [⟨.t 5, [.v (.int .i64)]⟩])]),
 (47, [(0, .j [⟨.t 7, [.r shOrder]⟩, ⟨.t 8, [.v .bool]⟩]), (1, .j [⟨.t 7, [.r shOrder]⟩, ⟨.t 8, [.v .bool]⟩, ⟨.t 9, [.v (.int .i64)]⟩]), (4, .j [⟨.t 7, [.r shOrder]⟩, ⟨.t 8, [.v .bool]⟩]), (5, .j [⟨.t 7, [.r shOrder]⟩]), (6, .j [⟨.t 7, [.r shOrder]⟩])]),
 (20, [(4, .j [⟨.b 9 [], [.v (.int .i64), .v (.int .i64), .v (.int .i64), .v (.int .i64), .v (.int .i64), .v (.int .i64), .v (.int .i64), .v (.int .i64), .v (.int .i64), .v (.int .i64), .v (.int .i64), .v .bool]⟩])]),
 (38, [(1, .j []), (2, .j [⟨.t 5, [.v (.int .i64)]⟩])]),
 (39, [(1, .j []), (2, .j [⟨.t 5, [.v (.int .i64)]⟩])]),
 (16, [(1, .j []), (2, .j [⟨.t 5, [.v (.int .i64)]⟩])]),
 (23, [(1, .j [⟨.b 2 [], [.v (.slice 9 shMsg), .v (.slice 12 shOrder), .v (.slice 5 shNote)]⟩]), (2, .j [⟨.b 2 [], [.v (.slice 9 shMsg), .v (.slice 12 shOrder), .v (.slice 5 shNote)]⟩]), (3, .j [⟨.b 2 [], [.v (.slice 9 shMsg), .v (.slice 12 shOrder), .v (.slice 5 shNote)]⟩]), (4, .j [⟨.b 6 [], [.v (.int .i64), .v (.int .i64), .v (.int .i64), .v (.int .i64), .v (.int .i64), .v (.int .i64), .v (.int .i64), .v (.int .i64), .v (.int .i64)]⟩]), (5, .j [⟨.b 6 [], [.v (.int .i64), .v (.int .i64), .v (.int .i64), .v (.int .i64), .v (.int .i64), .v (.int .i64), .v (.int .i64), .v (.int .i64), .v (.int .i64)]⟩])]),
 (4, [(2, .j [⟨.b 3 [], [.v (.slice 9 shMsg), .v (.slice 12 shOrder), .v (.slice 5 shNote)]⟩]), (3, .j [⟨.t 4, [.v (.int .i64)]⟩, ⟨.b 3 [], [.v (.slice 9 shMsg), .v (.slice 12 shOrder), .v (.slice 5 shNote)]⟩]), (6, .j []), (7, .j [⟨.t 5, [.v (.int .i64)]⟩]), (10, .j [⟨.t 7, [.v (.int .i64)]⟩, ⟨.t 8, [.v (.int .i64)]⟩, ⟨.t 9, [.v .bool]⟩]), (11, .j [⟨.t 7, [.v (.int .i64)]⟩, ⟨.t 8, [.v (.int .i64)]⟩, ⟨.t 9, [.v .bool]⟩, ⟨.t 10, [.v (.int .i64)]⟩]), (13, .j [⟨.t 7, [.v (.int .i64)]⟩, ⟨.t 8, [.v (.int .i64)]⟩, ⟨.t 9, [.v .bool]⟩]), (17, .j [⟨.t 66, [.v .bool]⟩]), (18, .j [⟨.t 7, [.v (.int .i64)]⟩, ⟨.t 8, [.v (.int .i64)]⟩, ⟨.t 9, [.v .bool]⟩]), (19, .j [⟨.t 7, [.v (.int .i64)]⟩, ⟨.t 9, [.v .bool]⟩]), (20, .j [⟨.t 9, [.v .bool]⟩]), (22, .j [])]),
 (5, [(3, .j [⟨.t 11, [.v (.int .i64)]⟩, ⟨.b 7 [], [.v (.int .i64), .v (.int .i64), .v (.int .i64), .v (.int .i64), .v (.int .i64), .v (.int .i64), .v (.int .i64), .v (.int .i64), .v (.int .i64), .v (.int .i64), .v (.int .i64), .v .bool]⟩, ⟨.b 9 [], [.v (.slice 9 shMsg), .v (.slice 12 shOrder), .v (.slice 5 shNote)]⟩]), (4, .j [⟨.t 11, [.v (.int .i64)]⟩, ⟨.t 12, [.v (.int .i64)]⟩, ⟨.b 7 [], [.v (.int .i64), .v (.int .i64), .v (.int .i64), .v (.int .i64), .v (.int .i64), .v (.int .i64), .v (.int .i64), .v (.int .i64), .v (.int .i64), .v (.int .i64), .v (.int .i64), .v .bool]⟩, ⟨.b 9 [], [.v (.slice 9 shMsg), .v (.slice 12 shOrder), .v (.slice 5 shNote)]⟩]), (8, .j [⟨.b 7 [], [.v (.int .i64), .v (.int .i64), .v (.int .i64), .v (.int .i64), .v (.int .i64), .v (.int .i64), .v (.int .i64), .v (.int .i64), .v (.int .i64), .v (.int .i64), .v (.int .i64), .v .bool]⟩, ⟨.b 9 [], [.v (.slice 9 shMsg), .v (.slice 12 shOrder), .v (.slice 5 shNote)]⟩]), (9, .j [⟨.b 7 [], [.v (.int .i64), .v (.int .i64), .v (.int .i64), .v (.int .i64), .v (.int .i64), .v (.int .i64), .v (.int .i64), .v (.int .i64), .v (.int .i64), .v (.int .i64), .v (.int .i64), .v .bool]⟩, ⟨.b 9 [], [.v (.slice 9 shMsg), .v (.slice 12 shOrder), .v (.slice 5 shNote)]⟩]), (10, .j [⟨.b 7 [], [.v (.int .i64), .v (.int .i64), .v (.int .i64), .v (.int .i64), .v (.int .i64), .v (.int .i64), .v (.int .i64), .v (.int .i64), .v (.int .i64), .v (.int .i64), .v (.int .i64), .v .bool]⟩, ⟨.b 9 [], [.v (.slice 9 shMsg), .v (.slice 12 shOrder), .v (.slice 5 shNote)]⟩]), (11, .j [⟨.b 9 [], [.v (.slice 9 shMsg), .v (.slice 12 shOrder), .v (.slice 5 shNote)]⟩]), (12, .j [⟨.b 7 [], [.v (.int .i64), .v (.int .i64), .v (.int .i64), .v (.int .i64), .v (.int .i64), .v (.int .i64), .v (.int .i64), .v (.int .i64), .v (.int .i64), .v (.int .i64), .v (.int .i64), .v .bool]⟩, ⟨.b 9 [], [.v (.slice 9 shMsg), .v (.slice 12 shOrder), .v (.slice 5 shNote)]⟩]), (14, .j [⟨.t 11, [.v (.int .i64)]⟩, ⟨.b 7 [], [.v (.int .i64), .v (.int .i64), .v (.int .i64), .v (.int .i64), .v (.int .i64), .v (.int .i64), .v (.int .i64), .v (.int .i64), .v (.int .i64), .v (.int .i64), .v (.int .i64), .v .bool]⟩]), (15, .j [⟨.t 11, [.v (.int .i64)]⟩, ⟨.b 7 [], [.v (.int .i64), .v (.int .i64), .v (.int .i64), .v (.int .i64), .v (.int .i64), .v (.int .i64), .v (.int .i64), .v (.int .i64), .v (.int .i64), .v (.int .i64), .v (.int .i64), .v .bool]⟩]), (19, .j [⟨.b 7 [], [.v (.int .i64), .v (.int .i64), .v (.int .i64), .v (.int .i64), .v (.int .i64), .v (.int .i64), .v (.int .i64), .v (.int .i64), .v (.int .i64), .v (.int .i64), .v (.int .i64), .v .bool]⟩]), (20, .j [⟨.t 11, [.v (.int .i64)]⟩, ⟨.b 7 [], [.v (.int .i64), .v (.int .i64), .v (.int .i64), .v (.int .i64), .v (.int .i64), .v (.int .i64), .v (.int .i64), .v (.int .i64), .v (.int .i64), .v (.int .i64), .v (.int .i64), .v .bool]⟩])]),
 (64, [(0, .j [⟨.t 9, [.v (.int .i64)]⟩]), (1, .j [⟨.t 9, [.v (.int .i64)]⟩, ⟨.t 10, [.v (.int .i64)]⟩]), (4, .j [⟨.t 9, [.v (.int .i64)]⟩, ⟨.t 10, [.v (.int .i64)]⟩])]),
 (35, [(0, .j []), (1, .j [⟨.t 8, [.v (.int .i64)]⟩])]),
 (43, [(1, .j [⟨.t 9, [.v (.int .i64)]⟩, ⟨.b 8 [], [.v (.int .i64), .v (.int .i64), .v (.int .i64), .v (.int .i64), .v (.int .i64), .v (.int .i64), .v (.int .i64), .v (.int .i64), .v (.int .i64), .v (.int .i64), .v (.int .i64), .v .bool]⟩])]),
 (60, [(0, .j []), (1, .j [⟨.t 8, [.v (.int .i64)]⟩])])]
def hnOf : List (Nat × List (Nat × Hint)) → Nat → List (Nat × Hint)
  | [], _ => []
  | (k, x) :: l, f => match Nat.beq k f with
    | true => x
    | false => hnOf l f
def hn : FuncId → List (Nat × Hint) := fun f => hnOf hnL f
def lbL : LbT := [(37, (.clone 9 72, shMsg)), (62, (.clone 12 96, shOrder)), (63, (.clone 5 40, shNote)), (66, (.ins 12 96, shOrder))]
theorem tLib : Tbl Try.prog lbL [] := Tbl.libs fun f k sh h => by
  unfold lbL at h
  try simp only [findL] at h
  split at h
  · rename_i e
    cases h
    rw [← Nat.eq_of_beq_eq_true e]
    exact cloneOk (t := 22) (tb := 4) (e := 28) (by unfold fnIs; kernel_rfl) (by kernel_rfl) (by kernel_rfl)
  try simp only [findL] at h
  split at h
  · rename_i e
    cases h
    rw [← Nat.eq_of_beq_eq_true e]
    exact cloneOk (t := 23) (tb := 4) (e := 53) (by unfold fnIs; kernel_rfl) (by kernel_rfl) (by kernel_rfl)
  try simp only [findL] at h
  split at h
  · rename_i e
    cases h
    rw [← Nat.eq_of_beq_eq_true e]
    exact cloneOk (t := 24) (tb := 4) (e := 51) (by unfold fnIs; kernel_rfl) (by kernel_rfl) (by kernel_rfl)
  try simp only [findL] at h
  split at h
  · rename_i e
    cases h
    rw [← Nat.eq_of_beq_eq_true e]
    exact insOk (t := 23) (ti := 3) (tb := 4) (e := 53) (fo := 70) (fr := 71) (by unfold fnIs; kernel_rfl) (by unfold overIs; kernel_rfl) (by kernel_rfl) (by kernel_rfl) (by kernel_rfl) (by kernel_rfl)
  cases h
noncomputable def g_venue_RightMsg (a : (MsgT × Unit)) : Option Bool :=
 bif ((((((decide (a.1.2.1 < 1)) || (decide (a.1.2.1 > 1000000000000))) || (decide (a.1.2.2.1 < 0))) || (decide (a.1.2.2.1 ≥ 8))) || (decide (a.1.2.2.2.1 < 0))) || (decide (a.1.2.2.2.1 ≥ 8))) then some false
 else bif ((((a.1.2.2.2.2.1 != 1) && (a.1.2.2.2.2.1 != 2)) || (decide (a.1.2.2.2.2.2.2.2.2.1 < 0))) || (decide (a.1.2.2.2.2.2.2.2.2.1 > 1000000000))) then some false
 else bif (a.1.1 == 1) then some (((decide (a.1.2.2.2.2.2.1 ≥ 1)) && (decide (a.1.2.2.2.2.2.2.1 ≥ 1))) && (a.1.2.2.2.2.2.2.2.1 == 0))
 else bif (a.1.1 == 2) then some (((decide (a.1.2.2.2.2.2.1 ≥ 1)) && (decide (a.1.2.2.2.2.2.2.1 ≥ 1))) && (decide (a.1.2.2.2.2.2.2.2.1 ≥ 1)))
 else bif (a.1.1 == 3) then some (((a.1.2.2.2.2.2.1 == 0) && (a.1.2.2.2.2.2.2.1 == 0)) && (a.1.2.2.2.2.2.2.2.1 == 0))
 else some false
noncomputable def tc10 : TCn := ⟨[shMsg], [.bool], g_venue_RightMsg⟩
noncomputable def T10 := (10, tc10) :: ([] : List (FuncId × TCn))
theorem t10 : Tbl Try.prog lbL T10 := Tbl.add tLib hn 8 10 tc10 (by kernel_rfl) (fun a => by kernel_rfl)
noncomputable def g_num_Add (a : (Int × (Int × Unit))) : Option (Int × (Int × Unit)) :=
 bif (((decide ((IntKind.wrap .i64 (a.1 + a.2.1)) > a.1)) != (decide (a.2.1 > 0))) && (a.2.1 != 0)) then some (0, (3, ()))
 else some ((IntKind.wrap .i64 (a.1 + a.2.1)), (0, ()))
noncomputable def tc50 : TCn := ⟨[(.int .i64), (.int .i64)], [(.int .i64), (.int .i64)], g_num_Add⟩
noncomputable def T50 := (50, tc50) :: T10
theorem t50 : Tbl Try.prog lbL T50 := Tbl.add t10 hn 8 50 tc50 (by kernel_rfl) (fun a => by kernel_rfl)
noncomputable def g_order_pending (a : (OrderT × Unit)) : Option Bool :=
 some ((a.1.2.2.2.2.2.2.2.2.1 != 0) || (a.1.2.2.2.2.2.2.2.2.2.1 != 0))
noncomputable def tc52 : TCn := ⟨[shOrder], [.bool], g_order_pending⟩
noncomputable def T52 := (52, tc52) :: T50
theorem t52 : Tbl Try.prog lbL T52 := Tbl.add t50 hn 8 52 tc52 (by kernel_rfl) (fun a => by kernel_rfl)
noncomputable def g_rec_fields (a : (RecT × Unit)) : Option RecT :=
 (
  (
   (
    bif (a.1.1 == 1) then some (.inl (a.1.1, (0, (a.1.2.2.1, (a.1.2.2.2.1, (a.1.2.2.2.2.1, (0, (0, (0, (0, (0, (false, (0, (0, ()))))))))))))))
    else bif (a.1.1 == 2) then some (.inl (a.1.1, (0, (0, (0, (0, (0, (0, (0, (0, (0, (false, (0, (0, ()))))))))))))))
    else bif (a.1.1 == 3) then (some (.inl (a.1.1, (0, (0, (0, (0, (0, (0, (0, (0, (0, (false, (0, (0, ()))))))))))))))).map .inr
    else bif (a.1.1 == 4) then ((some (a.1.1, (0, (a.1.2.2.1, (a.1.2.2.2.1, (0, (0, (0, (a.1.2.2.2.2.2.2.2.1, (a.1.2.2.2.2.2.2.2.2.1, (a.1.2.2.2.2.2.2.2.2.2.1, (false, (0, (0, ())))))))))))))).map .inr).map .inr
    else bif (a.1.1 == 5) then ((some (a.1.1, (0, (0, (0, (0, (0, (0, (0, (0, (0, (a.1.2.2.2.2.2.2.2.2.2.2.1, (0, (0, ())))))))))))))).map .inr).map .inr
    else bif (a.1.1 == 6) then ((some (a.1.1, (a.1.2.1, (0, (0, (0, (a.1.2.2.2.2.2.1, (a.1.2.2.2.2.2.2.1, (0, (0, (0, (false, a.1.2.2.2.2.2.2.2.2.2.2.2)))))))))))).map .inr).map .inr
    else ((some (a.1.1, (0, (0, (0, (0, (0, (0, (0, (0, (0, (false, (0, (0, ())))))))))))))).map .inr).map .inr).bind (eX (fun (v1 : RecT) =>
    some (.inl (v1.1, (v1.2.1, (v1.2.2.1, (v1.2.2.2.1, (v1.2.2.2.2.1, (a.1.2.2.2.2.2.1, (a.1.2.2.2.2.2.2.1, v1.2.2.2.2.2.2.2))))))))))).bind (eX (fun (v2 : RecT) =>
   some (v2.1, (a.1.2.1, v2.2.2))))).bind (fun (v3 : RecT) =>
  some v3)
noncomputable def tc55 : TCn := ⟨[shRec], [shRec], g_rec_fields⟩
noncomputable def T55 := (55, tc55) :: T52
theorem t55 : Tbl Try.prog lbL T55 := Tbl.add t52 hn 8 55 tc55 (by kernel_rfl) (fun a => by kernel_rfl)
noncomputable def g_rec_known (a : (Int × Unit)) : Option Bool :=
 some ((decide (a.1 ≥ 1)) && (decide (a.1 ≤ 1000000000000)))
noncomputable def tc56 : TCn := ⟨[(.int .i64)], [.bool], g_rec_known⟩
noncomputable def T56 := (56, tc56) :: T55
theorem t56 : Tbl Try.prog lbL T56 := Tbl.add t55 hn 8 56 tc56 (by kernel_rfl) (fun a => by kernel_rfl)
noncomputable def g_rec_below (a : (Int × (Int × Unit))) : Option Bool :=
 some ((decide (a.1 ≥ 0)) && (decide (a.1 < a.2.1)))
noncomputable def tc57 : TCn := ⟨[(.int .i64), (.int .i64)], [.bool], g_rec_below⟩
noncomputable def T57 := (57, tc57) :: T56
theorem t57 : Tbl Try.prog lbL T57 := Tbl.add t56 hn 8 57 tc57 (by kernel_rfl) (fun a => by kernel_rfl)
noncomputable def g_rec_sized (a : (RecT × Unit)) : Option Bool :=
 some ((decide (a.1.2.2.2.2.2.1 ≥ 1)) && (decide (a.1.2.2.2.2.2.2.1 ≥ 1)))
noncomputable def tc58 : TCn := ⟨[shRec], [.bool], g_rec_sized⟩
noncomputable def T58 := (58, tc58) :: T57
theorem t58 : Tbl Try.prog lbL T58 := Tbl.add t57 hn 8 58 tc58 (by kernel_rfl) (fun a => by kernel_rfl)
noncomputable def g_rec_event (a : (RecT × Unit)) : Option Bool :=
 (
  bif ((decide (a.1.2.2.2.2.2.2.2.2.2.2.2.1 < 1)) || (decide (a.1.2.2.2.2.2.2.2.2.2.2.2.1 > 1000000000))) then some true
  else ((g_rec_known (a.1.2.1, ()))).bind (fun (v1 : Bool) =>
   some (!v1))).bind (fun (v2 : Bool) =>
  bif v2 then some false
  else bif (a.1.2.2.2.2.2.2.2.2.2.2.2.2.1 == 3) then some ((decide (a.1.2.2.2.2.2.1 ≥ 1)) && (a.1.2.2.2.2.2.2.1 == 0))
  else bif (a.1.2.2.2.2.2.2.2.2.2.2.2.2.1 == 5) then ((g_rec_sized a)).bind (fun (v3 : Bool) =>
    some v3)
  else (
   bif (a.1.2.2.2.2.2.2.2.2.2.2.2.2.1 == 1) then some ((a.1.2.2.2.2.2.2.2.2.2.2.2.2.1 == 1), ())
   else (
    bif (a.1.2.2.2.2.2.2.2.2.2.2.2.2.1 == 2) then some ((a.1.2.2.2.2.2.2.2.2.2.2.2.2.1 == 2), ())
    else (
     bif (a.1.2.2.2.2.2.2.2.2.2.2.2.2.1 == 4) then some ((a.1.2.2.2.2.2.2.2.2.2.2.2.2.1 == 4), ())
     else some ((a.1.2.2.2.2.2.2.2.2.2.2.2.2.1 == 6), ())).bind (fun (v4 : (Bool × Unit)) =>
     some v4)).bind (fun (v5 : (Bool × Unit)) =>
    some v5)).bind (fun (v6 : (Bool × Unit)) =>
   bif v6.1 then some ((a.1.2.2.2.2.2.1 == 0) && (a.1.2.2.2.2.2.2.1 == 0))
   else some false))
noncomputable def tc59 : TCn := ⟨[shRec], [.bool], g_rec_event⟩
noncomputable def T59 := (59, tc59) :: T58
theorem t59 : Tbl Try.prog lbL T59 := Tbl.add t58 hn 8 59 tc59 (by kernel_rfl) (fun a => by kernel_rfl)
noncomputable def g_rec_Right (a : (RecT × Unit)) : Option Bool :=
 ((g_rec_fields a)).bind (fun (v1 : RecT) =>
  bif (!((a.1.1 == v1.1) && ((a.1.2.1 == v1.2.1) && ((a.1.2.2.1 == v1.2.2.1) && ((a.1.2.2.2.1 == v1.2.2.2.1) && ((a.1.2.2.2.2.1 == v1.2.2.2.2.1) && ((a.1.2.2.2.2.2.1 == v1.2.2.2.2.2.1) && ((a.1.2.2.2.2.2.2.1 == v1.2.2.2.2.2.2.1) && ((a.1.2.2.2.2.2.2.2.1 == v1.2.2.2.2.2.2.2.1) && ((a.1.2.2.2.2.2.2.2.2.1 == v1.2.2.2.2.2.2.2.2.1) && ((a.1.2.2.2.2.2.2.2.2.2.1 == v1.2.2.2.2.2.2.2.2.2.1) && ((a.1.2.2.2.2.2.2.2.2.2.2.1 == v1.2.2.2.2.2.2.2.2.2.2.1) && ((a.1.2.2.2.2.2.2.2.2.2.2.2.1 == v1.2.2.2.2.2.2.2.2.2.2.2.1) && ((a.1.2.2.2.2.2.2.2.2.2.2.2.2.1 == v1.2.2.2.2.2.2.2.2.2.2.2.2.1) && true)))))))))))))) then some false
  else bif (a.1.1 == 1) then ((g_rec_known (a.1.2.1, ()))).bind (fun (v2 : Bool) =>
    (
     bif v2 then ((g_rec_below (a.1.2.2.1, (8, ())))).bind (fun (v3 : Bool) =>
       some v3)
     else some false).bind (fun (v4 : Bool) =>
     (
      bif v4 then ((g_rec_below (a.1.2.2.2.1, (8, ())))).bind (fun (v5 : Bool) =>
        some v5)
      else some false).bind (fun (v6 : Bool) =>
      (
       bif (v6 && ((a.1.2.2.2.2.1 == 1) || (a.1.2.2.2.2.1 == 2))) then ((g_rec_sized a)).bind (fun (v7 : Bool) =>
         some v7)
       else some false).bind (fun (v8 : Bool) =>
       some v8))))
  else bif (a.1.1 == 2) then ((g_rec_known (a.1.2.1, ()))).bind (fun (v9 : Bool) =>
    (
     bif v9 then ((g_rec_sized a)).bind (fun (v10 : Bool) =>
       some v10)
     else some false).bind (fun (v11 : Bool) =>
     some v11))
  else bif (a.1.1 == 3) then ((g_rec_known (a.1.2.1, ()))).bind (fun (v12 : Bool) =>
    some v12)
  else bif (a.1.1 == 4) then ((g_rec_below (a.1.2.2.1, (8, ())))).bind (fun (v13 : Bool) =>
    (
     bif v13 then (
       bif (((a.1.2.2.2.1 == (-1)) && (a.1.2.2.2.2.2.2.2.1 == 0)) && (a.1.2.2.2.2.2.2.2.2.1 == 0)) then some true
       else ((g_rec_below (a.1.2.2.2.1, (8, ())))).bind (fun (v14 : Bool) =>
        some v14)).bind (fun (v15 : Bool) =>
       some v15)
     else some false).bind (fun (v16 : Bool) =>
     some (v16 && (decide ((if (false = true) then (if (a.1.2.2.2.2.2.2.2.2.2.1 > (if (false = true) then (if (a.1.2.2.2.2.2.2.2.2.1 > a.1.2.2.2.2.2.2.2.1) then a.1.2.2.2.2.2.2.2.2.1 else a.1.2.2.2.2.2.2.2.1) else (if (a.1.2.2.2.2.2.2.2.2.1 < a.1.2.2.2.2.2.2.2.1) then a.1.2.2.2.2.2.2.2.2.1 else a.1.2.2.2.2.2.2.2.1))) then a.1.2.2.2.2.2.2.2.2.2.1 else (if (false = true) then (if (a.1.2.2.2.2.2.2.2.2.1 > a.1.2.2.2.2.2.2.2.1) then a.1.2.2.2.2.2.2.2.2.1 else a.1.2.2.2.2.2.2.2.1) else (if (a.1.2.2.2.2.2.2.2.2.1 < a.1.2.2.2.2.2.2.2.1) then a.1.2.2.2.2.2.2.2.2.1 else a.1.2.2.2.2.2.2.2.1))) else (if (a.1.2.2.2.2.2.2.2.2.2.1 < (if (false = true) then (if (a.1.2.2.2.2.2.2.2.2.1 > a.1.2.2.2.2.2.2.2.1) then a.1.2.2.2.2.2.2.2.2.1 else a.1.2.2.2.2.2.2.2.1) else (if (a.1.2.2.2.2.2.2.2.2.1 < a.1.2.2.2.2.2.2.2.1) then a.1.2.2.2.2.2.2.2.2.1 else a.1.2.2.2.2.2.2.2.1))) then a.1.2.2.2.2.2.2.2.2.2.1 else (if (false = true) then (if (a.1.2.2.2.2.2.2.2.2.1 > a.1.2.2.2.2.2.2.2.1) then a.1.2.2.2.2.2.2.2.2.1 else a.1.2.2.2.2.2.2.2.1) else (if (a.1.2.2.2.2.2.2.2.2.1 < a.1.2.2.2.2.2.2.2.1) then a.1.2.2.2.2.2.2.2.2.1 else a.1.2.2.2.2.2.2.2.1)))) ≥ 0)))))
  else bif (a.1.1 == 5) then some true
  else bif (a.1.1 == 6) then ((g_rec_event a)).bind (fun (v17 : Bool) =>
    some v17)
  else some false)
noncomputable def tc27 : TCn := ⟨[shRec], [.bool], g_rec_Right⟩
noncomputable def T27 := (27, tc27) :: T59
theorem t27 : Tbl Try.prog lbL T27 := Tbl.add t59 hn 8 27 tc27 (by kernel_rfl) (fun a => by kernel_rfl)
noncomputable def g_order_begun (a : (OrderT × Unit)) : Option Bool :=
 ((g_rec_Right ((1, (a.1.1, (a.1.2.1, (a.1.2.2.1, (a.1.2.2.2.1, (a.1.2.2.2.2.1, (a.1.2.2.2.2.2.1, (0, (0, (0, (false, (0, (0, ()))))))))))))), ()))).bind (fun (v1 : Bool) =>
  some v1)
noncomputable def tc67 : TCn := ⟨[shOrder], [.bool], g_order_begun⟩
noncomputable def T67 := (67, tc67) :: T27
theorem t67 : Tbl Try.prog lbL T67 := Tbl.add t27 hn 8 67 tc67 (by kernel_rfl) (fun a => by kernel_rfl)
noncomputable def g_order_Right (a : (OrderT × Unit)) : Option Bool :=
 ((g_order_pending a)).bind (fun (v1 : Bool) =>
  ((g_order_begun a)).bind (fun (v2 : Bool) =>
   bif (((((!v2) || (decide (a.1.2.2.2.2.2.2.1 < 0))) || (decide (a.1.2.2.2.2.2.2.1 > a.1.2.2.2.2.1))) || (decide (a.1.2.2.2.2.2.2.2.2.2.2.1 < 0))) || (v1 && (decide ((if (false = true) then (if (a.1.2.2.2.2.2.2.2.2.2.1 > a.1.2.2.2.2.2.2.2.2.1) then a.1.2.2.2.2.2.2.2.2.2.1 else a.1.2.2.2.2.2.2.2.2.1) else (if (a.1.2.2.2.2.2.2.2.2.2.1 < a.1.2.2.2.2.2.2.2.2.1) then a.1.2.2.2.2.2.2.2.2.2.1 else a.1.2.2.2.2.2.2.2.2.1)) < 1)))) then some false
   else bif (a.1.2.2.2.2.2.2.2.1 == 1) then some (((a.1.2.2.2.2.2.2.1 == 0) && (a.1.2.2.2.2.2.2.2.2.2.2.1 == 0)) && (!v1))
   else bif (a.1.2.2.2.2.2.2.2.1 == 2) then some (decide (a.1.2.2.2.2.2.2.1 < a.1.2.2.2.2.1))
   else bif (a.1.2.2.2.2.2.2.2.1 == 3) then some (!v1)
   else some false))
noncomputable def tc51 : TCn := ⟨[shOrder], [.bool], g_order_Right⟩
noncomputable def T51 := (51, tc51) :: T67
theorem t51 : Tbl Try.prog lbL T51 := Tbl.add t67 hn 8 51 tc51 (by kernel_rfl) (fun a => by kernel_rfl)
noncomputable def g_order_settled (a : (OrderT × Unit)) : Option OrderT :=
 some (a.1.1, (a.1.2.1, (a.1.2.2.1, (a.1.2.2.2.1, (a.1.2.2.2.2.1, (a.1.2.2.2.2.2.1, (a.1.2.2.2.2.2.2.1, (a.1.2.2.2.2.2.2.2.1, (0, (0, a.1.2.2.2.2.2.2.2.2.2.2))))))))))
noncomputable def tc69 : TCn := ⟨[shOrder], [shOrder], g_order_settled⟩
noncomputable def T69 := (69, tc69) :: T51
theorem t69 : Tbl Try.prog lbL T69 := Tbl.add t51 hn 8 69 tc69 (by kernel_rfl) (fun a => by kernel_rfl)
noncomputable def g_order_done (a : (OrderT × Unit)) : Option OrderT :=
 ((g_order_settled ((a.1.1, (a.1.2.1, (a.1.2.2.1, (a.1.2.2.2.1, (a.1.2.2.2.2.1, (a.1.2.2.2.2.2.1, (a.1.2.2.2.2.2.2.1, (3, a.1.2.2.2.2.2.2.2.2)))))))), ()))).bind (fun (v1 : OrderT) =>
  some v1)
noncomputable def tc68 : TCn := ⟨[shOrder], [shOrder], g_order_done⟩
noncomputable def T68 := (68, tc68) :: T69
theorem t68 : Tbl Try.prog lbL T68 := Tbl.add t69 hn 8 68 tc68 (by kernel_rfl) (fun a => by kernel_rfl)
noncomputable def g_order_sent (a : (OrderT × (NoteT × Unit))) : Option (OrderT × (Bool × Unit)) :=
 bif (a.2.1.2.1 == 1) then some ((a.1.1, (a.1.2.1, (a.1.2.2.1, (a.1.2.2.2.1, (a.1.2.2.2.2.1, (a.1.2.2.2.2.2.1, (a.1.2.2.2.2.2.2.1, (2, a.1.2.2.2.2.2.2.2.2)))))))), (true, ()))
 else bif (a.2.1.2.1 == 2) then ((g_order_done (a.1, ()))).bind (fun (v1 : OrderT) =>
   some (v1, (true, ())))
 else some (a.1, (false, ()))
noncomputable def tc53 : TCn := ⟨[shOrder, shNote], [shOrder, .bool], g_order_sent⟩
noncomputable def T53 := (53, tc53) :: T68
theorem t53 : Tbl Try.prog lbL T53 := Tbl.add t68 hn 8 53 tc53 (by kernel_rfl) (fun a => by kernel_rfl)
noncomputable def g_order_live (a : (OrderT × (NoteT × Unit))) : Option (OrderT × (Bool × Unit)) :=
 (
  (
   bif (a.2.1.2.1 == 3) then bif (decide (a.2.1.2.2.2.1 > (IntKind.wrap .i64 (a.1.2.2.2.2.1 - a.1.2.2.2.2.2.2.1)))) then ((some (a.1, (false, ()))).map .inr).map .inr
    else bif (decide ((IntKind.wrap .i64 (a.1.2.2.2.2.2.2.1 + a.2.1.2.2.2.1)) < a.1.2.2.2.2.1)) then ((some ((a.1.1, (a.1.2.1, (a.1.2.2.1, (a.1.2.2.2.1, (a.1.2.2.2.2.1, (a.1.2.2.2.2.2.1, ((IntKind.wrap .i64 (a.1.2.2.2.2.2.2.1 + a.2.1.2.2.2.1)), a.1.2.2.2.2.2.2.2))))))), (true, ()))).map .inr).map .inr
    else some (.inl (a.1.1, (a.1.2.1, (a.1.2.2.1, (a.1.2.2.2.1, (a.1.2.2.2.2.1, (a.1.2.2.2.2.2.1, ((IntKind.wrap .i64 (a.1.2.2.2.2.2.2.1 + a.2.1.2.2.2.1)), (a.1.2.2.2.2.2.2.2.1, (a.1.2.2.2.2.2.2.2.2.1, (a.1.2.2.2.2.2.2.2.2.2.1, (a.1.2.2.2.2.2.2.2.2.2.2.1, (a.1.2.2.2.2.2.2.2.2.2.2.2.1, (0, (0, (0, (0, (0, (0, (0, (0, (0, (0, (0, (false, ())))))))))))))))))))))))))
   else bif (a.2.1.2.1 == 4) then some (.inl (a.1.1, (a.1.2.1, (a.1.2.2.1, (a.1.2.2.2.1, (a.1.2.2.2.2.1, (a.1.2.2.2.2.2.1, (a.1.2.2.2.2.2.2.1, (a.1.2.2.2.2.2.2.2.1, (a.1.2.2.2.2.2.2.2.2.1, (a.1.2.2.2.2.2.2.2.2.2.1, (a.1.2.2.2.2.2.2.2.2.2.2.1, (a.1.2.2.2.2.2.2.2.2.2.2.2.1, (0, (0, (0, (0, (0, (0, (0, (0, (0, (0, (0, (false, ())))))))))))))))))))))))))
   else bif (a.2.1.2.1 == 5) then (((g_order_pending (a.1, ()))).bind (fun (v1 : Bool) =>
     bif ((((!v1) || (a.2.1.2.2.2.1 != a.1.2.2.2.2.2.2.2.2.1)) || (a.2.1.2.2.2.2.1 != a.1.2.2.2.2.2.2.2.2.2.1)) || (decide (a.2.1.2.2.2.1 ≤ a.1.2.2.2.2.2.2.1))) then (some (a.1, (false, ()))).map .inr
     else ((g_order_settled ((a.1.1, (a.1.2.1, (a.1.2.2.1, (a.1.2.2.2.1, (a.2.1.2.2.2.1, (a.2.1.2.2.2.2.1, a.1.2.2.2.2.2.2)))))), ()))).bind (fun (v2 : OrderT) =>
      (some (v2, (true, ()))).map .inr))).map .inr
   else bif (a.2.1.2.1 == 6) then (((g_order_settled (a.1, ()))).bind (fun (v3 : OrderT) =>
     ((g_order_pending (a.1, ()))).bind (fun (v4 : Bool) =>
      (some (v3, (v4, ()))).map .inr))).map .inr
   else (some (.inl (a.1.1, (a.1.2.1, (a.1.2.2.1, (a.1.2.2.2.1, (a.1.2.2.2.2.1, (a.1.2.2.2.2.2.1, (a.1.2.2.2.2.2.2.1, (a.1.2.2.2.2.2.2.2.1, (a.1.2.2.2.2.2.2.2.2.1, (a.1.2.2.2.2.2.2.2.2.2.1, (a.1.2.2.2.2.2.2.2.2.2.2.1, (a.1.2.2.2.2.2.2.2.2.2.2.2.1, (0, (0, (0, (0, (0, (0, (0, (0, (0, (0, (0, (false, ())))))))))))))))))))))))))).map .inr).bind (eX (fun (v5 : (Int × (Int × (Int × (Int × (Int × (Int × (Int × (Int × (Int × (Int × (Int × (Bool × OrderT))))))))))))) =>
   ((g_order_done ((v5.1, (v5.2.1, (v5.2.2.1, (v5.2.2.2.1, (v5.2.2.2.2.1, (v5.2.2.2.2.2.1, (v5.2.2.2.2.2.2.1, (v5.2.2.2.2.2.2.2.1, (v5.2.2.2.2.2.2.2.2.1, (v5.2.2.2.2.2.2.2.2.2.1, (v5.2.2.2.2.2.2.2.2.2.2.1, (v5.2.2.2.2.2.2.2.2.2.2.2.1, ())))))))))))), ()))).bind (fun (v6 : OrderT) =>
    (some (v6, (true, ()))).map .inr)))).bind (eX (fun (v7 : (Int × (Int × (Int × (Int × (Int × (Int × (Int × (Int × (Int × (Int × (Int × (Bool × OrderT))))))))))))) =>
  some ((v7.1, (v7.2.1, (v7.2.2.1, (v7.2.2.2.1, (v7.2.2.2.2.1, (v7.2.2.2.2.2.1, (v7.2.2.2.2.2.2.1, (v7.2.2.2.2.2.2.2.1, (v7.2.2.2.2.2.2.2.2.1, (v7.2.2.2.2.2.2.2.2.2.1, (v7.2.2.2.2.2.2.2.2.2.2.1, (v7.2.2.2.2.2.2.2.2.2.2.2.1, ())))))))))))), (false, ()))))
noncomputable def tc54 : TCn := ⟨[shOrder, shNote], [shOrder, .bool], g_order_live⟩
noncomputable def T54 := (54, tc54) :: T53
theorem t54 : Tbl Try.prog lbL T54 := Tbl.add t53 hn 8 54 tc54 (by kernel_rfl) (fun a => by kernel_rfl)
noncomputable def g_order_Begin (a : (RecT × Unit)) : Option (OrderT × (Int × Unit)) :=
 (
  bif (a.1.1 != 1) then some true
  else ((g_rec_Right a)).bind (fun (v1 : Bool) =>
   some (!v1))).bind (fun (v2 : Bool) =>
  bif v2 then some ((0, (0, (0, (0, (0, (0, (0, (0, (0, (0, (0, (false, ())))))))))))), (1, ()))
  else some ((a.1.2.1, (a.1.2.2.1, (a.1.2.2.2.1, (a.1.2.2.2.2.1, (a.1.2.2.2.2.2.1, (a.1.2.2.2.2.2.2.1, (0, (1, (0, (0, (0, (false, ())))))))))))), (0, ())))
noncomputable def tc24 : TCn := ⟨[shRec], [shOrder, (.int .i64)], g_order_Begin⟩
noncomputable def T24 := (24, tc24) :: T54
theorem t24 : Tbl Try.prog lbL T24 := Tbl.add t54 hn 8 24 tc24 (by kernel_rfl) (fun a => by kernel_rfl)
noncomputable def g_order_Change (a : (OrderT × (Int × (Int × Unit)))) : Option (OrderT × (Int × Unit)) :=
 ((g_num_Add (a.1.2.2.2.2.2.2.2.2.2.2.1, (1, ())))).bind (fun (v1 : (Int × (Int × Unit))) =>
  ((g_order_Right (a.1, ()))).bind (fun (v2 : Bool) =>
   (
    bif (!v2) then some ((!v2), ())
    else (
     bif (decide (a.2.1 < 1)) then some ((decide (a.2.1 < 1)), ())
     else (
      bif (decide (a.2.2.1 < 1)) then some ((decide (a.2.2.1 < 1)), ())
      else some ((v1.2.1 != 0), ())).bind (fun (v3 : (Bool × Unit)) =>
      some v3)).bind (fun (v4 : (Bool × Unit)) =>
     some v4)).bind (fun (v5 : (Bool × Unit)) =>
    bif v5.1 then some (a.1, (1, ()))
    else (
     bif (a.1.2.2.2.2.2.2.2.1 != 2) then some ((a.1.2.2.2.2.2.2.2.1 != 2), ())
     else ((g_order_pending (a.1, ()))).bind (fun (v6 : Bool) =>
      (
       bif v6 then some (v6, ())
       else some a.1.2.2.2.2.2.2.2.2.2.2.2).bind (fun (v7 : (Bool × Unit)) =>
       some v7))).bind (fun (v8 : (Bool × Unit)) =>
     bif v8.1 then some (a.1, (8, ()))
     else some ((a.1.1, (a.1.2.1, (a.1.2.2.1, (a.1.2.2.2.1, (a.1.2.2.2.2.1, (a.1.2.2.2.2.2.1, (a.1.2.2.2.2.2.2.1, (a.1.2.2.2.2.2.2.2.1, (a.2.1, (a.2.2.1, ((IntKind.wrap .i64 (a.1.2.2.2.2.2.2.2.2.2.2.1 + 1)), a.1.2.2.2.2.2.2.2.2.2.2.2))))))))))), (0, ()))))))
noncomputable def tc25 : TCn := ⟨[shOrder, (.int .i64), (.int .i64)], [shOrder, (.int .i64)], g_order_Change⟩
noncomputable def T25 := (25, tc25) :: T24
theorem t25 : Tbl Try.prog lbL T25 := Tbl.add t24 hn 8 25 tc25 (by kernel_rfl) (fun a => by kernel_rfl)
noncomputable def g_rec_OfNote (a : (NoteT × Unit)) : Option RecT :=
 some (6, (a.1.2.2.1, (0, (0, (0, (a.1.2.2.2.1, (a.1.2.2.2.2.1, (0, (0, (0, (false, (a.1.1, (a.1.2.1, ())))))))))))))
noncomputable def tc28 : TCn := ⟨[shNote], [shRec], g_rec_OfNote⟩
noncomputable def T28 := (28, tc28) :: T25
theorem t28 : Tbl Try.prog lbL T28 := Tbl.add t25 hn 8 28 tc28 (by kernel_rfl) (fun a => by kernel_rfl)
noncomputable def g_order_Take (a : (OrderT × (NoteT × Unit))) : Option (OrderT × (Int × Unit)) :=
 ((g_order_Right (a.1, ()))).bind (fun (v1 : Bool) =>
  (
   bif (!v1) then some true
   else ((g_rec_OfNote a.2)).bind (fun (v2 : RecT) =>
    ((g_rec_Right (v2, ()))).bind (fun (v3 : Bool) =>
     some (!v3)))).bind (fun (v4 : Bool) =>
   bif (v4 || (a.2.1.2.2.1 != a.1.1)) then some (a.1, (1, ()))
   else (
    bif (a.1.2.2.2.2.2.2.2.1 == 1) then ((g_order_sent a)).bind (fun (v5 : (OrderT × (Bool × Unit))) =>
      some (v5.2.1, v5.1))
    else (
     bif (a.1.2.2.2.2.2.2.2.1 == 2) then ((g_order_live a)).bind (fun (v6 : (OrderT × (Bool × Unit))) =>
       some (v6.2.1, v6.1))
     else some (false, a.1)).bind (fun (v7 : (Bool × OrderT)) =>
     some v7)).bind (fun (v8 : (Bool × OrderT)) =>
    bif (!v8.1) then some (a.1, (8, ()))
    else some (v8.2, (0, ())))))
noncomputable def tc26 : TCn := ⟨[shOrder, shNote], [shOrder, (.int .i64)], g_order_Take⟩
noncomputable def T26 := (26, tc26) :: T28
theorem t26 : Tbl Try.prog lbL T26 := Tbl.add t28 hn 8 26 tc26 (by kernel_rfl) (fun a => by kernel_rfl)
noncomputable def g_venue_settled (a : (OrderT × Unit)) : Option Bool :=
 ((g_order_Right a)).bind (fun (v1 : Bool) =>
  some (((v1 && (a.1.2.2.2.2.2.2.2.1 != 1)) && (a.1.2.2.2.2.2.2.2.2.1 == 0)) && (!a.1.2.2.2.2.2.2.2.2.2.2.2.1)))
noncomputable def tc29 : TCn := ⟨[shOrder], [.bool], g_venue_settled⟩
noncomputable def T29 := (29, tc29) :: T26
theorem t29 : Tbl Try.prog lbL T29 := Tbl.add t26 hn 8 29 tc29 (by kernel_rfl) (fun a => by kernel_rfl)
noncomputable def g_venue_Right (a : (VenueT × Unit)) : Option Bool :=
 bif (((decide ((a.1.1.length : Int) > 400)) || (decide ((a.1.2.2.1.length : Int) > 400))) || (decide ((a.1.2.1.length : Int) > 400))) then some false
 else (
  loopO (fun (v1 : (Int × Unit)) =>
   bif (decide (v1.1 < (a.1.2.2.1.length : Int))) then ((getI a.1.2.2.1 v1.1)).bind (fun (v2 : NoteT) =>
     (
      bif (v2.1 != (IntKind.wrap .i64 (v1.1 + 1))) then some true
      else ((g_rec_OfNote (v2, ()))).bind (fun (v3 : RecT) =>
       ((g_rec_Right (v3, ()))).bind (fun (v4 : Bool) =>
        some (!v4)))).bind (fun (v5 : Bool) =>
      bif v5 then ((some false).map .inr).map .inr
      else some (.inl ((IntKind.wrap .i64 (v1.1 + 1)), ()))))
   else (some (.inl ())).map .inr) (0, ())).bind (eX (fun (v6 : Unit) =>
  (
   loopO (fun (v7 : (Int × Unit)) =>
    bif (decide (v7.1 < (a.1.2.1.length : Int))) then ((getI a.1.2.1 v7.1)).bind (fun (v8 : OrderT) =>
      ((g_venue_settled (v8, ()))).bind (fun (v9 : Bool) =>
       (
        bif (!v9) then some true
        else (
         bif (decide (v7.1 > 0)) then ((getI a.1.2.1 (IntKind.wrap .i64 (v7.1 - 1)))).bind (fun (v10 : OrderT) =>
           some (decide (v8.1 ≤ v10.1)))
         else some false).bind (fun (v11 : Bool) =>
         some v11)).bind (fun (v12 : Bool) =>
        bif v12 then ((some false).map .inr).map .inr
        else some (.inl ((IntKind.wrap .i64 (v7.1 + 1)), ())))))
    else (some (.inl ())).map .inr) (0, ())).bind (eX (fun (v13 : Unit) =>
   (
    loopO (fun (v14 : (Int × Unit)) =>
     bif (decide (v14.1 < (a.1.1.length : Int))) then ((getI a.1.1 v14.1)).bind (fun (v15 : MsgT) =>
       ((g_venue_RightMsg (v15, ()))).bind (fun (v16 : Bool) =>
        bif (!v16) then ((some (!(decide (v14.1 ≥ 0)))).map .inr).map .inr
        else some (.inl ((IntKind.wrap .i64 (v14.1 + 1)), ()))))
     else (some (.inl ())).map .inr) (0, ())).bind (eX (fun (v17 : Unit) =>
    some (!(decide ((-1) ≥ 0)))))))))
noncomputable def tc8 : TCn := ⟨[shVenue], [.bool], g_venue_Right⟩
noncomputable def T8 := (8, tc8) :: T29
theorem t8 : Tbl Try.prog lbL T8 := Tbl.add t29 hn 8 8 tc8 (by kernel_rfl) (fun a => by kernel_rfl)
noncomputable def g_venue_Find (a : (VenueT × (Int × Unit))) : Option Int :=
 (
  loopO (fun (v1 : (Int × Unit)) =>
   bif (decide (v1.1 < (a.1.2.1.length : Int))) then ((getI a.1.2.1 v1.1)).bind (fun (v2 : OrderT) =>
     bif (v2.1 == a.2.1) then ((some v1.1).map .inr).map .inr
     else some (.inl ((IntKind.wrap .i64 (v1.1 + 1)), ())))
   else (some (.inl ())).map .inr) (0, ())).bind (eX (fun (v3 : Unit) =>
  some (-1)))
noncomputable def tc12 : TCn := ⟨[shVenue, (.int .i64)], [(.int .i64)], g_venue_Find⟩
noncomputable def T12 := (12, tc12) :: T8
theorem t12 : Tbl Try.prog lbL T12 := Tbl.add t8 hn 8 12 tc12 (by kernel_rfl) (fun a => by kernel_rfl)
noncomputable def g_venue_Send (a : (VenueT × (MsgT × Unit))) : Option (VenueT × (Int × Unit)) :=
 ((g_venue_Right (a.1, ()))).bind (fun (v1 : Bool) =>
  (
   bif (!v1) then some ((!v1), ())
   else ((g_venue_RightMsg a.2)).bind (fun (v2 : Bool) =>
    some ((!v2), ()))).bind (fun (v3 : (Bool × Unit)) =>
   bif v3.1 then some (a.1, (1, ()))
   else bif ((a.1.1.length : Int) == 400) then some (a.1, (6, ()))
   else ((appX [] a.1.1 72)).bind (fun (v4 : (List MsgT)) =>
    ((appX v4 (a.2.1 :: []) 72)).bind (fun (v5 : (List MsgT)) =>
     some ((v5, a.1.2), (0, ()))))))
noncomputable def tc14 : TCn := ⟨[shVenue, shMsg], [shVenue, (.int .i64)], g_venue_Send⟩
noncomputable def T14 := (14, tc14) :: T12
theorem t14 : Tbl Try.prog lbL T14 := Tbl.add t12 hn 8 14 tc14 (by kernel_rfl) (fun a => by kernel_rfl)
noncomputable def g_venue_full (a : (VenueT × Unit)) : Option Bool :=
 some ((a.1.2.2.1.length : Int) == 400)
noncomputable def tc40 : TCn := ⟨[shVenue], [.bool], g_venue_full⟩
noncomputable def T40 := (40, tc40) :: T14
theorem t40 : Tbl Try.prog lbL T40 := Tbl.add t14 hn 8 40 tc40 (by kernel_rfl) (fun a => by kernel_rfl)
noncomputable def g_venue_swells (a : (VenueT × Unit)) : Option Bool :=
 ((getI a.1.1 0)).bind (fun (v1 : MsgT) =>
  (
   bif (v1.1 == 1) then ((getI a.1.1 0)).bind (fun (v2 : MsgT) =>
     ((g_venue_Find (a.1, (v2.2.1, ())))).bind (fun (v3 : Int) =>
      some (v3 == (-1))))
   else some false).bind (fun (v4 : Bool) =>
   some v4))
noncomputable def tc41 : TCn := ⟨[shVenue], [.bool], g_venue_swells⟩
noncomputable def T41 := (41, tc41) :: T40
theorem t41 : Tbl Try.prog lbL T41 := Tbl.add t40 hn 8 41 tc41 (by kernel_rfl) (fun a => by kernel_rfl)
noncomputable def g_venue_Take (a : (VenueT × (Bool × Unit))) : Option (VenueT × (Int × Unit)) :=
 ((g_venue_Right (a.1, ()))).bind (fun (v1 : Bool) =>
  bif (!v1) then some (a.1, (1, ()))
  else bif ((a.1.1.length : Int) == 0) then some (a.1, (7, ()))
  else ((g_venue_full (a.1, ()))).bind (fun (v2 : Bool) =>
   (
    bif v2 then some (v2, ())
    else ((g_venue_swells (a.1, ()))).bind (fun (v3 : Bool) =>
     some ((v3 && ((a.1.2.1.length : Int) == 400)), ()))).bind (fun (v4 : (Bool × Unit)) =>
    bif v4.1 then some (a.1, (6, ()))
    else ((appX [] a.1.1 72)).bind (fun (v5 : (List MsgT)) =>
     ((appX [] a.1.2.1 96)).bind (fun (v6 : (List OrderT)) =>
      ((appX [] a.1.2.2.1 40)).bind (fun (v7 : (List NoteT)) =>
       bif (inI 0 v5.length) then (v5[0]?).bind (fun (v8 : MsgT) =>
         bif (inSl 1 (v5.length : Int) v5.length) then bif (v8.1 == 1) then (
            loopO (fun (v9 : (Int × (Int × Unit))) =>
             bif (decide (v9.1 < v9.2.1)) then bif (inI (IntKind.wrap .i64 (Int.fdiv (IntKind.wrap .u64 (IntKind.wrap .i64 (v9.1 + v9.2.1))) (2 ^ 1))) v6.length) then (v6[(Int.toNat (IntKind.wrap .i64 (Int.fdiv (IntKind.wrap .u64 (IntKind.wrap .i64 (v9.1 + v9.2.1))) (2 ^ 1))))]?).bind (fun (v10 : OrderT) =>
                (
                 bif (decide ((if (false = true) then (if (1 > (if (true = true) then (if ((-1) > (IntKind.wrap .i64 (v10.1 - v8.2.1))) then (-1) else (IntKind.wrap .i64 (v10.1 - v8.2.1))) else (if ((-1) < (IntKind.wrap .i64 (v10.1 - v8.2.1))) then (-1) else (IntKind.wrap .i64 (v10.1 - v8.2.1))))) then 1 else (if (true = true) then (if ((-1) > (IntKind.wrap .i64 (v10.1 - v8.2.1))) then (-1) else (IntKind.wrap .i64 (v10.1 - v8.2.1))) else (if ((-1) < (IntKind.wrap .i64 (v10.1 - v8.2.1))) then (-1) else (IntKind.wrap .i64 (v10.1 - v8.2.1))))) else (if (1 < (if (true = true) then (if ((-1) > (IntKind.wrap .i64 (v10.1 - v8.2.1))) then (-1) else (IntKind.wrap .i64 (v10.1 - v8.2.1))) else (if ((-1) < (IntKind.wrap .i64 (v10.1 - v8.2.1))) then (-1) else (IntKind.wrap .i64 (v10.1 - v8.2.1))))) then 1 else (if (true = true) then (if ((-1) > (IntKind.wrap .i64 (v10.1 - v8.2.1))) then (-1) else (IntKind.wrap .i64 (v10.1 - v8.2.1))) else (if ((-1) < (IntKind.wrap .i64 (v10.1 - v8.2.1))) then (-1) else (IntKind.wrap .i64 (v10.1 - v8.2.1)))))) < 0)) then some ((IntKind.wrap .i64 ((IntKind.wrap .i64 (Int.fdiv (IntKind.wrap .u64 (IntKind.wrap .i64 (v9.1 + v9.2.1))) (2 ^ 1))) + 1)), v9.2)
                 else some (v9.1, ((IntKind.wrap .i64 (Int.fdiv (IntKind.wrap .u64 (IntKind.wrap .i64 (v9.1 + v9.2.1))) (2 ^ 1))), ()))).bind (fun (v11 : (Int × (Int × Unit))) =>
                 some (.inl v11)))
              else none
             else (some (v9.1, ())).map .inr) (0, ((v6.length : Int), ()))).bind (fun (v12 : (Int × Unit)) =>
            bif (decide (v12.1 < (v6.length : Int))) then bif (inI v12.1 v6.length) then (v6[(Int.toNat v12.1)]?).bind (fun (v13 : OrderT) =>
               bif ((if (false = true) then (if (1 > (if (true = true) then (if ((-1) > (IntKind.wrap .i64 (v13.1 - v8.2.1))) then (-1) else (IntKind.wrap .i64 (v13.1 - v8.2.1))) else (if ((-1) < (IntKind.wrap .i64 (v13.1 - v8.2.1))) then (-1) else (IntKind.wrap .i64 (v13.1 - v8.2.1))))) then 1 else (if (true = true) then (if ((-1) > (IntKind.wrap .i64 (v13.1 - v8.2.1))) then (-1) else (IntKind.wrap .i64 (v13.1 - v8.2.1))) else (if ((-1) < (IntKind.wrap .i64 (v13.1 - v8.2.1))) then (-1) else (IntKind.wrap .i64 (v13.1 - v8.2.1))))) else (if (1 < (if (true = true) then (if ((-1) > (IntKind.wrap .i64 (v13.1 - v8.2.1))) then (-1) else (IntKind.wrap .i64 (v13.1 - v8.2.1))) else (if ((-1) < (IntKind.wrap .i64 (v13.1 - v8.2.1))) then (-1) else (IntKind.wrap .i64 (v13.1 - v8.2.1))))) then 1 else (if (true = true) then (if ((-1) > (IntKind.wrap .i64 (v13.1 - v8.2.1))) then (-1) else (IntKind.wrap .i64 (v13.1 - v8.2.1))) else (if ((-1) < (IntKind.wrap .i64 (v13.1 - v8.2.1))) then (-1) else (IntKind.wrap .i64 (v13.1 - v8.2.1)))))) == 0) then some ((((v5.drop 1).take ((Int.toNat (v5.length : Int)) - 1)), (v6, (v7, ()))), (0, ()))
               else (
                bif a.2.1 then some (1, (v8.2.1, (v8.2.2.1, (v8.2.2.2.1, (v8.2.2.2.2.1, (v8.2.2.2.2.2.1, (v8.2.2.2.2.2.2.1, (0, (2, (0, (0, (0, (false, ())))))))))))))
                else some (2, (v8.2.1, (v8.2.2.1, (v8.2.2.2.1, (v8.2.2.2.2.1, (v8.2.2.2.2.2.1, (v8.2.2.2.2.2.2.1, (0, (3, (0, (0, (0, (false, ())))))))))))))).bind (fun (v14 : (Int × OrderT)) =>
                ((insX v6 v12.1 (v14.2 :: []) 96)).bind (fun (v15 : (List OrderT)) =>
                 ((appX v7 (((IntKind.wrap .i64 ((v7.length : Int) + 1)), (v14.1, (v14.2.1, (0, (0, ()))))) :: []) 40)).bind (fun (v16 : (List NoteT)) =>
                  some ((((v5.drop 1).take ((Int.toNat (v5.length : Int)) - 1)), (v15, (v16, ()))), (0, ()))))))
             else none
            else (
             bif a.2.1 then some (1, (v8.2.1, (v8.2.2.1, (v8.2.2.2.1, (v8.2.2.2.2.1, (v8.2.2.2.2.2.1, (v8.2.2.2.2.2.2.1, (0, (2, (0, (0, (0, (false, ())))))))))))))
             else some (2, (v8.2.1, (v8.2.2.1, (v8.2.2.2.1, (v8.2.2.2.2.1, (v8.2.2.2.2.2.1, (v8.2.2.2.2.2.2.1, (0, (3, (0, (0, (0, (false, ())))))))))))))).bind (fun (v17 : (Int × OrderT)) =>
             ((insX v6 v12.1 (v17.2 :: []) 96)).bind (fun (v18 : (List OrderT)) =>
              ((appX v7 (((IntKind.wrap .i64 ((v7.length : Int) + 1)), (v17.1, (v17.2.1, (0, (0, ()))))) :: []) 40)).bind (fun (v19 : (List NoteT)) =>
               some ((((v5.drop 1).take ((Int.toNat (v5.length : Int)) - 1)), (v18, (v19, ()))), (0, ()))))))
          else bif (v8.1 == 2) then ((g_venue_Find ((((v5.drop 1).take ((Int.toNat (v5.length : Int)) - 1)), (v6, (v7, ()))), (v8.2.1, ())))).bind (fun (v20 : Int) =>
            (
             bif (v20 == (-1)) then some true
             else bif (inI v20 v6.length) then (v6[(Int.toNat v20)]?).bind (fun (v21 : OrderT) =>
               some (v21.2.2.2.2.2.2.2.1 != 2))
             else none).bind (fun (v22 : Bool) =>
             bif v22 then some ((((v5.drop 1).take ((Int.toNat (v5.length : Int)) - 1)), (v6, (v7, ()))), (0, ()))
             else bif (inI v20 v6.length) then (v6[(Int.toNat v20)]?).bind (fun (v23 : OrderT) =>
               bif (decide (v8.2.2.2.2.2.2.2.1 ≤ v23.2.2.2.2.2.2.2.2.2.2.1)) then some ((((v5.drop 1).take ((Int.toNat (v5.length : Int)) - 1)), (v6, (v7, ()))), (0, ()))
               else (v6[(Int.toNat v20)]?).bind (fun (v24 : OrderT) =>
                (
                 bif (!a.2.1) then some true
                 else ((List.set v6 (Int.toNat v20) (v24.1, (v24.2.1, (v24.2.2.1, (v24.2.2.2.1, (v24.2.2.2.2.1, (v24.2.2.2.2.2.1, (v24.2.2.2.2.2.2.1, (v24.2.2.2.2.2.2.2.1, (v24.2.2.2.2.2.2.2.2.1, (v24.2.2.2.2.2.2.2.2.2.1, (v8.2.2.2.2.2.2.2.1, v24.2.2.2.2.2.2.2.2.2.2.2))))))))))))[(Int.toNat v20)]?).bind (fun (v25 : OrderT) =>
                  some (decide (v8.2.2.2.2.2.1 ≤ v25.2.2.2.2.2.2.1)))).bind (fun (v26 : Bool) =>
                 bif v26 then ((List.set v6 (Int.toNat v20) (v24.1, (v24.2.1, (v24.2.2.1, (v24.2.2.2.1, (v24.2.2.2.2.1, (v24.2.2.2.2.2.1, (v24.2.2.2.2.2.2.1, (v24.2.2.2.2.2.2.2.1, (v24.2.2.2.2.2.2.2.2.1, (v24.2.2.2.2.2.2.2.2.2.1, (v8.2.2.2.2.2.2.2.1, v24.2.2.2.2.2.2.2.2.2.2.2))))))))))))[(Int.toNat v20)]?).bind (fun (v27 : OrderT) =>
                   ((appX v7 (((IntKind.wrap .i64 ((v7.length : Int) + 1)), (6, (v27.1, (0, (0, ()))))) :: []) 40)).bind (fun (v28 : (List NoteT)) =>
                    some ((((v5.drop 1).take ((Int.toNat (v5.length : Int)) - 1)), ((List.set v6 (Int.toNat v20) (v24.1, (v24.2.1, (v24.2.2.1, (v24.2.2.2.1, (v24.2.2.2.2.1, (v24.2.2.2.2.2.1, (v24.2.2.2.2.2.2.1, (v24.2.2.2.2.2.2.2.1, (v24.2.2.2.2.2.2.2.2.1, (v24.2.2.2.2.2.2.2.2.2.1, (v8.2.2.2.2.2.2.2.1, v24.2.2.2.2.2.2.2.2.2.2.2)))))))))))), (v28, ()))), (0, ()))))
                 else ((List.set v6 (Int.toNat v20) (v24.1, (v24.2.1, (v24.2.2.1, (v24.2.2.2.1, (v24.2.2.2.2.1, (v24.2.2.2.2.2.1, (v24.2.2.2.2.2.2.1, (v24.2.2.2.2.2.2.2.1, (v24.2.2.2.2.2.2.2.2.1, (v24.2.2.2.2.2.2.2.2.2.1, (v8.2.2.2.2.2.2.2.1, v24.2.2.2.2.2.2.2.2.2.2.2))))))))))))[(Int.toNat v20)]?).bind (fun (v29 : OrderT) =>
                  ((List.set (List.set v6 (Int.toNat v20) (v24.1, (v24.2.1, (v24.2.2.1, (v24.2.2.2.1, (v24.2.2.2.2.1, (v24.2.2.2.2.2.1, (v24.2.2.2.2.2.2.1, (v24.2.2.2.2.2.2.2.1, (v24.2.2.2.2.2.2.2.2.1, (v24.2.2.2.2.2.2.2.2.2.1, (v8.2.2.2.2.2.2.2.1, v24.2.2.2.2.2.2.2.2.2.2.2)))))))))))) (Int.toNat v20) (v29.1, (v29.2.1, (v29.2.2.1, (v29.2.2.2.1, (v8.2.2.2.2.2.1, v29.2.2.2.2.2))))))[(Int.toNat v20)]?).bind (fun (v30 : OrderT) =>
                   ((List.set (List.set (List.set v6 (Int.toNat v20) (v24.1, (v24.2.1, (v24.2.2.1, (v24.2.2.2.1, (v24.2.2.2.2.1, (v24.2.2.2.2.2.1, (v24.2.2.2.2.2.2.1, (v24.2.2.2.2.2.2.2.1, (v24.2.2.2.2.2.2.2.2.1, (v24.2.2.2.2.2.2.2.2.2.1, (v8.2.2.2.2.2.2.2.1, v24.2.2.2.2.2.2.2.2.2.2.2)))))))))))) (Int.toNat v20) (v29.1, (v29.2.1, (v29.2.2.1, (v29.2.2.2.1, (v8.2.2.2.2.2.1, v29.2.2.2.2.2)))))) (Int.toNat v20) (v30.1, (v30.2.1, (v30.2.2.1, (v30.2.2.2.1, (v30.2.2.2.2.1, (v8.2.2.2.2.2.2.1, v30.2.2.2.2.2.2)))))))[(Int.toNat v20)]?).bind (fun (v31 : OrderT) =>
                    ((appX v7 (((IntKind.wrap .i64 ((v7.length : Int) + 1)), (5, (v31.1, (v8.2.2.2.2.2.1, (v8.2.2.2.2.2.2.1, ()))))) :: []) 40)).bind (fun (v32 : (List NoteT)) =>
                     some ((((v5.drop 1).take ((Int.toNat (v5.length : Int)) - 1)), ((List.set (List.set (List.set v6 (Int.toNat v20) (v24.1, (v24.2.1, (v24.2.2.1, (v24.2.2.2.1, (v24.2.2.2.2.1, (v24.2.2.2.2.2.1, (v24.2.2.2.2.2.2.1, (v24.2.2.2.2.2.2.2.1, (v24.2.2.2.2.2.2.2.2.1, (v24.2.2.2.2.2.2.2.2.2.1, (v8.2.2.2.2.2.2.2.1, v24.2.2.2.2.2.2.2.2.2.2.2)))))))))))) (Int.toNat v20) (v29.1, (v29.2.1, (v29.2.2.1, (v29.2.2.2.1, (v8.2.2.2.2.2.1, v29.2.2.2.2.2)))))) (Int.toNat v20) (v30.1, (v30.2.1, (v30.2.2.1, (v30.2.2.2.1, (v30.2.2.2.2.1, (v8.2.2.2.2.2.2.1, v30.2.2.2.2.2.2))))))), (v32, ()))), (0, ())))))))))
             else none))
          else ((g_venue_Find ((((v5.drop 1).take ((Int.toNat (v5.length : Int)) - 1)), (v6, (v7, ()))), (v8.2.1, ())))).bind (fun (v33 : Int) =>
           (
            bif (v33 == (-1)) then some true
            else bif (inI v33 v6.length) then (v6[(Int.toNat v33)]?).bind (fun (v34 : OrderT) =>
              some (v34.2.2.2.2.2.2.2.1 != 2))
            else none).bind (fun (v35 : Bool) =>
            bif v35 then some ((((v5.drop 1).take ((Int.toNat (v5.length : Int)) - 1)), (v6, (v7, ()))), (0, ()))
            else bif (inI v33 v6.length) then bif a.2.1 then (v6[(Int.toNat v33)]?).bind (fun (v36 : OrderT) =>
               ((List.set v6 (Int.toNat v33) (v36.1, (v36.2.1, (v36.2.2.1, (v36.2.2.2.1, (v36.2.2.2.2.1, (v36.2.2.2.2.2.1, (v36.2.2.2.2.2.2.1, (3, v36.2.2.2.2.2.2.2.2)))))))))[(Int.toNat v33)]?).bind (fun (v37 : OrderT) =>
                ((appX v7 (((IntKind.wrap .i64 ((v7.length : Int) + 1)), (4, (v37.1, (0, (0, ()))))) :: []) 40)).bind (fun (v38 : (List NoteT)) =>
                 some ((((v5.drop 1).take ((Int.toNat (v5.length : Int)) - 1)), ((List.set v6 (Int.toNat v33) (v36.1, (v36.2.1, (v36.2.2.1, (v36.2.2.2.1, (v36.2.2.2.2.1, (v36.2.2.2.2.2.1, (v36.2.2.2.2.2.2.1, (3, v36.2.2.2.2.2.2.2.2))))))))), (v38, ()))), (0, ())))))
             else some ((((v5.drop 1).take ((Int.toNat (v5.length : Int)) - 1)), (v6, (v7, ()))), (0, ()))
            else none))
         else none)
       else none))))))
noncomputable def tc17 : TCn := ⟨[shVenue, .bool], [shVenue, (.int .i64)], g_venue_Take⟩
noncomputable def T17 := (17, tc17) :: T41
theorem t17 : Tbl Try.prog lbL T17 := Tbl.add t41 hn 8 17 tc17 (by kernel_rfl) (fun a => by kernel_rfl)
noncomputable def g_venue_Fill (a : (VenueT × (Int × (Int × Unit)))) : Option (VenueT × (Int × Unit)) :=
 ((g_venue_Right (a.1, ()))).bind (fun (v1 : Bool) =>
  bif ((!v1) || (decide (a.2.2.1 < 1))) then some (a.1, (1, ()))
  else ((g_venue_Find (a.1, (a.2.1, ())))).bind (fun (v2 : Int) =>
   bif (v2 == (-1)) then some (a.1, (7, ()))
   else ((appX [] a.1.1 72)).bind (fun (v3 : (List MsgT)) =>
    ((appX [] a.1.2.1 96)).bind (fun (v4 : (List OrderT)) =>
     ((appX [] a.1.2.2.1 40)).bind (fun (v5 : (List NoteT)) =>
      ((g_venue_Find ((v3, (v4, (v5, ()))), (a.2.1, ())))).bind (fun (v6 : Int) =>
       (
        bif (v6 == (-1)) then some true
        else bif (inI v6 v4.length) then (v4[(Int.toNat v6)]?).bind (fun (v7 : OrderT) =>
          some (v7.2.2.2.2.2.2.2.1 != 2))
        else none).bind (fun (v8 : Bool) =>
        bif v8 then some (a.1, (8, ()))
        else bif (inI v6 v4.length) then (v4[(Int.toNat v6)]?).bind (fun (v9 : OrderT) =>
          (v4[(Int.toNat v6)]?).bind (fun (v10 : OrderT) =>
           bif (decide (a.2.2.1 > (IntKind.wrap .i64 (v9.2.2.2.2.1 - v10.2.2.2.2.2.2.1)))) then some (a.1, (8, ()))
           else ((g_venue_full (a.1, ()))).bind (fun (v11 : Bool) =>
            bif v11 then some (a.1, (6, ()))
            else (v4[(Int.toNat v6)]?).bind (fun (v12 : OrderT) =>
             (v4[(Int.toNat v6)]?).bind (fun (v13 : OrderT) =>
              ((List.set v4 (Int.toNat v6) (v13.1, (v13.2.1, (v13.2.2.1, (v13.2.2.2.1, (v13.2.2.2.2.1, (v13.2.2.2.2.2.1, ((IntKind.wrap .i64 (v12.2.2.2.2.2.2.1 + a.2.2.1)), v13.2.2.2.2.2.2.2))))))))[(Int.toNat v6)]?).bind (fun (v14 : OrderT) =>
               ((List.set v4 (Int.toNat v6) (v13.1, (v13.2.1, (v13.2.2.1, (v13.2.2.2.1, (v13.2.2.2.2.1, (v13.2.2.2.2.2.1, ((IntKind.wrap .i64 (v12.2.2.2.2.2.2.1 + a.2.2.1)), v13.2.2.2.2.2.2.2))))))))[(Int.toNat v6)]?).bind (fun (v15 : OrderT) =>
                bif (v14.2.2.2.2.2.2.1 == v15.2.2.2.2.1) then ((List.set v4 (Int.toNat v6) (v13.1, (v13.2.1, (v13.2.2.1, (v13.2.2.2.1, (v13.2.2.2.2.1, (v13.2.2.2.2.2.1, ((IntKind.wrap .i64 (v12.2.2.2.2.2.2.1 + a.2.2.1)), v13.2.2.2.2.2.2.2))))))))[(Int.toNat v6)]?).bind (fun (v16 : OrderT) =>
                  ((appX v5 (((IntKind.wrap .i64 ((v5.length : Int) + 1)), (3, (a.2.1, (a.2.2.1, (0, ()))))) :: []) 40)).bind (fun (v17 : (List NoteT)) =>
                   some ((v3, ((List.set (List.set v4 (Int.toNat v6) (v13.1, (v13.2.1, (v13.2.2.1, (v13.2.2.2.1, (v13.2.2.2.2.1, (v13.2.2.2.2.2.1, ((IntKind.wrap .i64 (v12.2.2.2.2.2.2.1 + a.2.2.1)), v13.2.2.2.2.2.2.2)))))))) (Int.toNat v6) (v16.1, (v16.2.1, (v16.2.2.1, (v16.2.2.2.1, (v16.2.2.2.2.1, (v16.2.2.2.2.2.1, (v16.2.2.2.2.2.2.1, (3, v16.2.2.2.2.2.2.2.2))))))))), (v17, ()))), (0, ()))))
                else ((appX v5 (((IntKind.wrap .i64 ((v5.length : Int) + 1)), (3, (a.2.1, (a.2.2.1, (0, ()))))) :: []) 40)).bind (fun (v18 : (List NoteT)) =>
                 some ((v3, ((List.set v4 (Int.toNat v6) (v13.1, (v13.2.1, (v13.2.2.1, (v13.2.2.2.1, (v13.2.2.2.2.1, (v13.2.2.2.2.2.1, ((IntKind.wrap .i64 (v12.2.2.2.2.2.2.1 + a.2.2.1)), v13.2.2.2.2.2.2.2)))))))), (v18, ()))), (0, ()))))))))))
        else none)))))))
noncomputable def tc19 : TCn := ⟨[shVenue, (.int .i64), (.int .i64)], [shVenue, (.int .i64)], g_venue_Fill⟩
noncomputable def T19 := (19, tc19) :: T17
theorem t19 : Tbl Try.prog lbL T19 := Tbl.add t17 hn 8 19 tc19 (by kernel_rfl) (fun a => by kernel_rfl)
noncomputable def g_venue_Out (a : (VenueT × (Int × Unit))) : Option (VenueT × (Int × Unit)) :=
 ((g_venue_Right (a.1, ()))).bind (fun (v1 : Bool) =>
  bif (!v1) then some (a.1, (1, ()))
  else ((g_venue_Find a)).bind (fun (v2 : Int) =>
   bif (v2 == (-1)) then some (a.1, (7, ()))
   else ((appX [] a.1.1 72)).bind (fun (v3 : (List MsgT)) =>
    ((appX [] a.1.2.1 96)).bind (fun (v4 : (List OrderT)) =>
     ((appX [] a.1.2.2.1 40)).bind (fun (v5 : (List NoteT)) =>
      ((g_venue_Find ((v3, (v4, (v5, ()))), a.2))).bind (fun (v6 : Int) =>
       (
        bif (v6 == (-1)) then some true
        else bif (inI v6 v4.length) then (v4[(Int.toNat v6)]?).bind (fun (v7 : OrderT) =>
          some (v7.2.2.2.2.2.2.2.1 != 2))
        else none).bind (fun (v8 : Bool) =>
        bif v8 then some (a.1, (8, ()))
        else bif (inI v6 v4.length) then ((g_venue_full (a.1, ()))).bind (fun (v9 : Bool) =>
          bif v9 then some (a.1, (6, ()))
          else (v4[(Int.toNat v6)]?).bind (fun (v10 : OrderT) =>
           ((List.set v4 (Int.toNat v6) (v10.1, (v10.2.1, (v10.2.2.1, (v10.2.2.2.1, (v10.2.2.2.2.1, (v10.2.2.2.2.2.1, (v10.2.2.2.2.2.2.1, (3, v10.2.2.2.2.2.2.2.2)))))))))[(Int.toNat v6)]?).bind (fun (v11 : OrderT) =>
            ((appX v5 (((IntKind.wrap .i64 ((v5.length : Int) + 1)), (4, (v11.1, (0, (0, ()))))) :: []) 40)).bind (fun (v12 : (List NoteT)) =>
             some ((v3, ((List.set v4 (Int.toNat v6) (v10.1, (v10.2.1, (v10.2.2.1, (v10.2.2.2.1, (v10.2.2.2.2.1, (v10.2.2.2.2.2.1, (v10.2.2.2.2.2.2.1, (3, v10.2.2.2.2.2.2.2.2))))))))), (v12, ()))), (0, ()))))))
        else none)))))))
noncomputable def tc21 : TCn := ⟨[shVenue, (.int .i64)], [shVenue, (.int .i64)], g_venue_Out⟩
noncomputable def T21 := (21, tc21) :: T19
theorem t21 : Tbl Try.prog lbL T21 := Tbl.add t19 hn 8 21 tc21 (by kernel_rfl) (fun a => by kernel_rfl)
noncomputable def g_ref16_RightMsg (a : (MsgT × Unit)) : Option Bool :=
 bif (a.1.1 == 1) then some ((((((((((((decide (a.1.2.1 > 0)) && (decide (a.1.2.1 ≤ 1000000000000))) && (decide (a.1.2.2.1 ≥ 0))) && (decide (a.1.2.2.1 ≤ 7))) && (decide (a.1.2.2.2.1 ≥ 0))) && (decide (a.1.2.2.2.1 ≤ 7))) && ((a.1.2.2.2.2.1 == 1) || (a.1.2.2.2.2.1 == 2))) && (decide (a.1.2.2.2.2.2.2.2.2.1 ≥ 0))) && (decide (a.1.2.2.2.2.2.2.2.2.1 ≤ 1000000000))) && (decide (a.1.2.2.2.2.2.1 > 0))) && (decide (a.1.2.2.2.2.2.2.1 > 0))) && (a.1.2.2.2.2.2.2.2.1 == 0))
 else bif (a.1.1 == 2) then some ((((((((((((decide (a.1.2.1 > 0)) && (decide (a.1.2.1 ≤ 1000000000000))) && (decide (a.1.2.2.1 ≥ 0))) && (decide (a.1.2.2.1 ≤ 7))) && (decide (a.1.2.2.2.1 ≥ 0))) && (decide (a.1.2.2.2.1 ≤ 7))) && ((a.1.2.2.2.2.1 == 1) || (a.1.2.2.2.2.1 == 2))) && (decide (a.1.2.2.2.2.2.2.2.2.1 ≥ 0))) && (decide (a.1.2.2.2.2.2.2.2.2.1 ≤ 1000000000))) && (decide (a.1.2.2.2.2.2.1 > 0))) && (decide (a.1.2.2.2.2.2.2.1 > 0))) && (decide (a.1.2.2.2.2.2.2.2.1 > 0)))
 else some (((((((((((((decide (a.1.2.1 > 0)) && (decide (a.1.2.1 ≤ 1000000000000))) && (decide (a.1.2.2.1 ≥ 0))) && (decide (a.1.2.2.1 ≤ 7))) && (decide (a.1.2.2.2.1 ≥ 0))) && (decide (a.1.2.2.2.1 ≤ 7))) && ((a.1.2.2.2.2.1 == 1) || (a.1.2.2.2.2.1 == 2))) && (decide (a.1.2.2.2.2.2.2.2.2.1 ≥ 0))) && (decide (a.1.2.2.2.2.2.2.2.2.1 ≤ 1000000000))) && (a.1.1 == 3)) && (a.1.2.2.2.2.2.1 == 0)) && (a.1.2.2.2.2.2.2.1 == 0)) && (a.1.2.2.2.2.2.2.2.1 == 0))
noncomputable def tc11 : TCn := ⟨[shMsg], [.bool], g_ref16_RightMsg⟩
noncomputable def T11 := (11, tc11) :: T21
theorem t11 : Tbl Try.prog lbL T11 := Tbl.add t21 hn 8 11 tc11 (by kernel_rfl) (fun a => by kernel_rfl)
noncomputable def g_ref06_id (a : (Int × Unit)) : Option Bool :=
 some ((decide (a.1 > 0)) && (decide (a.1 ≤ 1000000000000)))
noncomputable def tc61 : TCn := ⟨[(.int .i64)], [.bool], g_ref06_id⟩
noncomputable def T61 := (61, tc61) :: T11
theorem t61 : Tbl Try.prog lbL T61 := Tbl.add t11 hn 8 61 tc61 (by kernel_rfl) (fun a => by kernel_rfl)
noncomputable def g_ref06_Right (a : (RecT × Unit)) : Option Bool :=
 (
  bif (a.1.1 == 1) then ((g_ref06_id (a.1.2.1, ()))).bind (fun (v1 : Bool) =>
    some (((((((((v1 && (decide (a.1.2.2.1 ≥ 0))) && (decide (a.1.2.2.1 < 8))) && (decide (a.1.2.2.2.1 ≥ 0))) && (decide (a.1.2.2.2.1 < 8))) && (decide (a.1.2.2.2.2.1 ≥ 1))) && (decide (a.1.2.2.2.2.1 ≤ 2))) && (decide (a.1.2.2.2.2.2.1 > 0))) && (decide (a.1.2.2.2.2.2.2.1 > 0))), (a.1.1, (a.1.2.1, (a.1.2.2.1, (a.1.2.2.2.1, (a.1.2.2.2.2.1, (a.1.2.2.2.2.2.1, (a.1.2.2.2.2.2.2.1, (0, (0, (0, (false, (0, (0, ())))))))))))))))
  else (
   bif (a.1.1 == 2) then ((g_ref06_id (a.1.2.1, ()))).bind (fun (v2 : Bool) =>
     some (((v2 && (decide (a.1.2.2.2.2.2.1 > 0))) && (decide (a.1.2.2.2.2.2.2.1 > 0))), (a.1.1, (a.1.2.1, (0, (0, (0, (a.1.2.2.2.2.2.1, (a.1.2.2.2.2.2.2.1, (0, (0, (0, (false, (0, (0, ())))))))))))))))
   else (
    bif (a.1.1 == 3) then ((g_ref06_id (a.1.2.1, ()))).bind (fun (v3 : Bool) =>
      some (v3, (a.1.1, (a.1.2.1, (0, (0, (0, (0, (0, (0, (0, (0, (false, (0, (0, ())))))))))))))))
    else (
     bif (a.1.1 == 4) then (
       bif ((a.1.2.2.2.1 == (-1)) && ((a.1.2.2.2.2.2.2.2.1 != 0) || (a.1.2.2.2.2.2.2.2.2.1 != 0))) then some (false, ())
       else some ((((((((decide (a.1.2.2.1 ≥ 0)) && (decide (a.1.2.2.1 < 8))) && (decide (a.1.2.2.2.1 ≥ (-1)))) && (decide (a.1.2.2.2.1 < 8))) && (decide (a.1.2.2.2.2.2.2.2.1 ≥ 0))) && (decide (a.1.2.2.2.2.2.2.2.2.1 ≥ 0))) && (decide (a.1.2.2.2.2.2.2.2.2.2.1 ≥ 0))), ())).bind (fun (v4 : (Bool × Unit)) =>
       some (v4.1, (a.1.1, (0, (a.1.2.2.1, (a.1.2.2.2.1, (0, (0, (0, (a.1.2.2.2.2.2.2.2.1, (a.1.2.2.2.2.2.2.2.2.1, (a.1.2.2.2.2.2.2.2.2.2.1, (false, (0, (0, ())))))))))))))))
     else (
      bif (a.1.1 == 5) then some (true, (a.1.1, (0, (0, (0, (0, (0, (0, (0, (0, (0, (a.1.2.2.2.2.2.2.2.2.2.2.1, (0, (0, ()))))))))))))))
      else (
       bif (a.1.1 == 6) then (
         bif ((((decide (a.1.2.2.2.2.2.2.2.2.2.2.2.1 > 0)) && (decide (a.1.2.2.2.2.2.2.2.2.2.2.2.1 ≤ 1000000000))) && (decide (a.1.2.2.2.2.2.2.2.2.2.2.2.2.1 ≥ 1))) && (decide (a.1.2.2.2.2.2.2.2.2.2.2.2.2.1 ≤ 6))) then ((g_ref06_id (a.1.2.1, ()))).bind (fun (v5 : Bool) =>
           some v5)
         else some false).bind (fun (v6 : Bool) =>
         (
          bif ((a.1.2.2.2.2.2.2.2.2.2.2.2.2.1 == 3) || (a.1.2.2.2.2.2.2.2.2.2.2.2.2.1 == 5)) then some ((v6 && (decide (a.1.2.2.2.2.2.1 > 0))), (a.1.1, (a.1.2.1, (0, (0, (0, (a.1.2.2.2.2.2.1, (0, (0, (0, (0, (false, a.1.2.2.2.2.2.2.2.2.2.2.2))))))))))))
          else some (v6, (a.1.1, (a.1.2.1, (0, (0, (0, (0, (0, (0, (0, (0, (false, a.1.2.2.2.2.2.2.2.2.2.2.2))))))))))))).bind (fun (v7 : (Bool × RecT)) =>
          (
           bif (a.1.2.2.2.2.2.2.2.2.2.2.2.2.1 == 5) then some ((v7.1 && (decide (a.1.2.2.2.2.2.2.1 > 0))), (v7.2.1, (v7.2.2.1, (v7.2.2.2.1, (v7.2.2.2.2.1, (v7.2.2.2.2.2.1, (v7.2.2.2.2.2.2.1, (a.1.2.2.2.2.2.2.1, v7.2.2.2.2.2.2.2.2))))))))
           else some v7).bind (fun (v8 : (Bool × RecT)) =>
           some v8)))
       else some (false, (a.1.1, (0, (0, (0, (0, (0, (0, (0, (0, (0, (false, (0, (0, ()))))))))))))))).bind (fun (v9 : (Bool × RecT)) =>
       some v9)).bind (fun (v10 : (Bool × RecT)) =>
      some v10)).bind (fun (v11 : (Bool × RecT)) =>
     some v11)).bind (fun (v12 : (Bool × RecT)) =>
    some v12)).bind (fun (v13 : (Bool × RecT)) =>
   some v13)).bind (fun (v14 : (Bool × RecT)) =>
  some (v14.1 && ((a.1.1 == v14.2.1) && ((a.1.2.1 == v14.2.2.1) && ((a.1.2.2.1 == v14.2.2.2.1) && ((a.1.2.2.2.1 == v14.2.2.2.2.1) && ((a.1.2.2.2.2.1 == v14.2.2.2.2.2.1) && ((a.1.2.2.2.2.2.1 == v14.2.2.2.2.2.2.1) && ((a.1.2.2.2.2.2.2.1 == v14.2.2.2.2.2.2.2.1) && ((a.1.2.2.2.2.2.2.2.1 == v14.2.2.2.2.2.2.2.2.1) && ((a.1.2.2.2.2.2.2.2.2.1 == v14.2.2.2.2.2.2.2.2.2.1) && ((a.1.2.2.2.2.2.2.2.2.2.1 == v14.2.2.2.2.2.2.2.2.2.2.1) && ((a.1.2.2.2.2.2.2.2.2.2.2.1 == v14.2.2.2.2.2.2.2.2.2.2.2.1) && ((a.1.2.2.2.2.2.2.2.2.2.2.2.1 == v14.2.2.2.2.2.2.2.2.2.2.2.2.1) && ((a.1.2.2.2.2.2.2.2.2.2.2.2.2.1 == v14.2.2.2.2.2.2.2.2.2.2.2.2.2.1) && true)))))))))))))))
noncomputable def tc32 : TCn := ⟨[shRec], [.bool], g_ref06_Right⟩
noncomputable def T32 := (32, tc32) :: T61
theorem t32 : Tbl Try.prog lbL T32 := Tbl.add t61 hn 8 32 tc32 (by kernel_rfl) (fun a => by kernel_rfl)
noncomputable def g_ref16_OfNote (a : (NoteT × Unit)) : Option RecT :=
 some (6, (a.1.2.2.1, (0, (0, (0, (a.1.2.2.2.1, (a.1.2.2.2.2.1, (0, (0, (0, (false, (a.1.1, (a.1.2.1, ())))))))))))))
noncomputable def tc33 : TCn := ⟨[shNote], [shRec], g_ref16_OfNote⟩
noncomputable def T33 := (33, tc33) :: T32
theorem t33 : Tbl Try.prog lbL T33 := Tbl.add t32 hn 8 33 tc33 (by kernel_rfl) (fun a => by kernel_rfl)
noncomputable def g_ref07_Right (a : (OrderT × Unit)) : Option Bool :=
 ((g_ref06_Right ((1, (a.1.1, (a.1.2.1, (a.1.2.2.1, (a.1.2.2.2.1, (a.1.2.2.2.2.1, (a.1.2.2.2.2.2.1, (0, (0, (0, (false, (0, (0, ()))))))))))))), ()))).bind (fun (v1 : Bool) =>
  bif (!v1) then some false
  else bif (((decide (a.1.2.2.2.2.2.2.1 < 0)) || (decide (a.1.2.2.2.2.2.2.1 > a.1.2.2.2.2.1))) || (decide (a.1.2.2.2.2.2.2.2.2.2.2.1 < 0))) then some false
  else bif ((!((a.1.2.2.2.2.2.2.2.2.1 == 0) && (a.1.2.2.2.2.2.2.2.2.2.1 == 0))) && ((decide (a.1.2.2.2.2.2.2.2.2.1 < 1)) || (decide (a.1.2.2.2.2.2.2.2.2.2.1 < 1)))) then some false
  else bif (a.1.2.2.2.2.2.2.2.1 == 1) then some ((((a.1.2.2.2.2.2.2.2.2.1 == 0) && (a.1.2.2.2.2.2.2.2.2.2.1 == 0)) && (a.1.2.2.2.2.2.2.1 == 0)) && (a.1.2.2.2.2.2.2.2.2.2.2.1 == 0))
  else bif (a.1.2.2.2.2.2.2.2.1 == 2) then some (a.1.2.2.2.2.2.2.1 != a.1.2.2.2.2.1)
  else some ((a.1.2.2.2.2.2.2.2.1 == 3) && ((a.1.2.2.2.2.2.2.2.2.1 == 0) && (a.1.2.2.2.2.2.2.2.2.2.1 == 0))))
noncomputable def tc34 : TCn := ⟨[shOrder], [.bool], g_ref07_Right⟩
noncomputable def T34 := (34, tc34) :: T33
theorem t34 : Tbl Try.prog lbL T34 := Tbl.add t33 hn 8 34 tc34 (by kernel_rfl) (fun a => by kernel_rfl)
noncomputable def g_ref16_Right (a : (VenueT × Unit)) : Option Bool :=
 bif (((decide ((a.1.1.length : Int) > 400)) || (decide ((a.1.2.2.1.length : Int) > 400))) || (decide ((a.1.2.1.length : Int) > 400))) then some false
 else (
  loopO (fun (v1 : (Int × Unit)) =>
   bif (decide (v1.1 < (a.1.1.length : Int))) then ((getI a.1.1 v1.1)).bind (fun (v2 : MsgT) =>
     ((g_ref16_RightMsg (v2, ()))).bind (fun (v3 : Bool) =>
      bif (!v3) then ((some false).map .inr).map .inr
      else some (.inl ((IntKind.wrap .i64 (v1.1 + 1)), ()))))
   else (some (.inl ())).map .inr) (0, ())).bind (eX (fun (v4 : Unit) =>
  (
   loopO (fun (v5 : (Int × Unit)) =>
    bif (decide (v5.1 < (a.1.2.2.1.length : Int))) then ((getI a.1.2.2.1 v5.1)).bind (fun (v6 : NoteT) =>
      (
       bif (v6.1 != (IntKind.wrap .i64 (v5.1 + 1))) then some true
       else ((getI a.1.2.2.1 v5.1)).bind (fun (v7 : NoteT) =>
        ((g_ref16_OfNote (v7, ()))).bind (fun (v8 : RecT) =>
         ((g_ref06_Right (v8, ()))).bind (fun (v9 : Bool) =>
          some (!v9))))).bind (fun (v10 : Bool) =>
       bif v10 then ((some false).map .inr).map .inr
       else some (.inl ((IntKind.wrap .i64 (v5.1 + 1)), ()))))
    else (some (.inl ())).map .inr) (0, ())).bind (eX (fun (v11 : Unit) =>
   (
    loopO (fun (v12 : (Int × Unit)) =>
     bif (decide (v12.1 < (a.1.2.1.length : Int))) then ((getI a.1.2.1 v12.1)).bind (fun (v13 : OrderT) =>
       ((g_ref07_Right (v13, ()))).bind (fun (v14 : Bool) =>
        (
         bif (((((!v14) || (v13.2.2.2.2.2.2.2.1 == 1)) || (v13.2.2.2.2.2.2.2.2.1 != 0)) || (v13.2.2.2.2.2.2.2.2.2.1 != 0)) || v13.2.2.2.2.2.2.2.2.2.2.2.1) then some true
         else (
          bif (decide (v12.1 > 0)) then ((getI a.1.2.1 (IntKind.wrap .i64 (v12.1 - 1)))).bind (fun (v15 : OrderT) =>
            some (decide (v13.1 ≤ v15.1)))
          else some false).bind (fun (v16 : Bool) =>
          some v16)).bind (fun (v17 : Bool) =>
         bif v17 then ((some false).map .inr).map .inr
         else some (.inl ((IntKind.wrap .i64 (v12.1 + 1)), ())))))
     else (some (.inl ())).map .inr) (0, ())).bind (eX (fun (v18 : Unit) =>
    some true))))))
noncomputable def tc9 : TCn := ⟨[shVenue], [.bool], g_ref16_Right⟩
noncomputable def T9 := (9, tc9) :: T34
theorem t9 : Tbl Try.prog lbL T9 := Tbl.add t34 hn 8 9 tc9 (by kernel_rfl) (fun a => by kernel_rfl)
noncomputable def g_ref16_Find (a : (VenueT × (Int × Unit))) : Option Int :=
 (
  loopO (fun (v1 : (Int × Unit)) =>
   bif (decide (v1.1 < (a.1.2.1.length : Int))) then ((getI a.1.2.1 v1.1)).bind (fun (v2 : OrderT) =>
     bif (v2.1 == a.2.1) then ((some v1.1).map .inr).map .inr
     else some (.inl ((IntKind.wrap .i64 (v1.1 + 1)), ())))
   else (some (.inl ())).map .inr) (0, ())).bind (eX (fun (v3 : Unit) =>
  some (-1)))
noncomputable def tc13 : TCn := ⟨[shVenue, (.int .i64)], [(.int .i64)], g_ref16_Find⟩
noncomputable def T13 := (13, tc13) :: T9
theorem t13 : Tbl Try.prog lbL T13 := Tbl.add t9 hn 8 13 tc13 (by kernel_rfl) (fun a => by kernel_rfl)
noncomputable def g_ref16_Send (a : (VenueT × (MsgT × Unit))) : Option (VenueT × (Int × Unit)) :=
 ((g_ref16_Right (a.1, ()))).bind (fun (v1 : Bool) =>
  (
   bif (!v1) then some true
   else ((g_ref16_RightMsg a.2)).bind (fun (v2 : Bool) =>
    some (!v2))).bind (fun (v3 : Bool) =>
   bif v3 then some (a.1, (1, ()))
   else bif (decide ((a.1.1.length : Int) ≥ 400)) then some (a.1, (6, ()))
   else ((appX [] a.1.1 72)).bind (fun (v4 : (List MsgT)) =>
    ((appX v4 (a.2.1 :: []) 72)).bind (fun (v5 : (List MsgT)) =>
     some ((v5, a.1.2), (0, ()))))))
noncomputable def tc15 : TCn := ⟨[shVenue, shMsg], [shVenue, (.int .i64)], g_ref16_Send⟩
noncomputable def T15 := (15, tc15) :: T13
theorem t15 : Tbl Try.prog lbL T15 := Tbl.add t13 hn 8 15 tc15 (by kernel_rfl) (fun a => by kernel_rfl)
noncomputable def g_ref16_with (a : (VenueT × (OrderT × (NoteT × Unit)))) : Option VenueT :=
 (
  loopO (fun (v1 : ((List OrderT) × (Bool × (Int × Unit)))) =>
   bif (decide (v1.2.2.1 < (a.1.2.1.length : Int))) then (
     bif (!v1.2.1) then ((getI a.1.2.1 v1.2.2.1)).bind (fun (v2 : OrderT) =>
       some (decide (v2.1 ≥ a.2.1.1)))
     else some false).bind (fun (v3 : Bool) =>
     (
      bif v3 then ((appX v1.1 (a.2.1 :: []) 96)).bind (fun (v4 : (List OrderT)) =>
        some (v4, (true, ())))
      else some (v1.1, (v1.2.1, ()))).bind (fun (v5 : ((List OrderT) × (Bool × Unit))) =>
      ((getI a.1.2.1 v1.2.2.1)).bind (fun (v6 : OrderT) =>
       (
        bif (v6.1 != a.2.1.1) then ((getI a.1.2.1 v1.2.2.1)).bind (fun (v7 : OrderT) =>
          ((appX v5.1 (v7 :: []) 96)).bind (fun (v8 : (List OrderT)) =>
           some (v8, ())))
        else some (v5.1, ())).bind (fun (v9 : ((List OrderT) × Unit)) =>
        some (.inl (v9.1, (v5.2.1, ((IntKind.wrap .i64 (v1.2.2.1 + 1)), ()))))))))
   else (some (v1.1, (v1.2.1, ()))).map .inr) ([], (false, (0, ())))).bind (fun (v10 : ((List OrderT) × (Bool × Unit))) =>
  (
   bif (!v10.2.1) then ((appX v10.1 (a.2.1 :: []) 96)).bind (fun (v11 : (List OrderT)) =>
     some (v11, ()))
   else some (v10.1, ())).bind (fun (v12 : ((List OrderT) × Unit)) =>
   bif (a.2.2.1.2.1 != 0) then ((appX [] a.1.2.2.1 40)).bind (fun (v13 : (List NoteT)) =>
     ((appX v13 (((IntKind.wrap .i64 ((a.1.2.2.1.length : Int) + 1)), (a.2.2.1.2.1, (a.2.1.1, a.2.2.1.2.2.2))) :: []) 40)).bind (fun (v14 : (List NoteT)) =>
      some (a.1.1, (v12.1, (v14, ())))))
   else some (a.1.1, (v12.1, a.1.2.2))))
noncomputable def tc47 : TCn := ⟨[shVenue, shOrder, shNote], [shVenue], g_ref16_with⟩
noncomputable def T47 := (47, tc47) :: T15
theorem t47 : Tbl Try.prog lbL T47 := Tbl.add t15 hn 8 47 tc47 (by kernel_rfl) (fun a => by kernel_rfl)
noncomputable def g_ref16_Take (a : (VenueT × (Bool × Unit))) : Option (VenueT × (Int × Unit)) :=
 ((g_ref16_Right (a.1, ()))).bind (fun (v1 : Bool) =>
  bif (!v1) then some (a.1, (1, ()))
  else bif ((a.1.1.length : Int) == 0) then some (a.1, (7, ()))
  else bif (decide ((a.1.2.2.1.length : Int) ≥ 400)) then some (a.1, (6, ()))
  else ((getI a.1.1 0)).bind (fun (v2 : MsgT) =>
   ((g_ref16_Find (a.1, (v2.2.1, ())))).bind (fun (v3 : Int) =>
    bif (((v2.1 == 1) && (decide (v3 < 0))) && (decide ((a.1.2.1.length : Int) ≥ 400))) then some (a.1, (6, ()))
    else ((subI a.1.1 1 (a.1.1.length : Int))).bind (fun (v4 : (List MsgT)) =>
     ((appX [] v4 72)).bind (fun (v5 : (List MsgT)) =>
      bif (v2.1 == 1) then bif (decide (v3 ≥ 0)) then some ((v5, a.1.2), (0, ()))
       else bif a.2.1 then ((g_ref16_with ((v5, a.1.2), ((v2.2.1, (v2.2.2.1, (v2.2.2.2.1, (v2.2.2.2.2.1, (v2.2.2.2.2.2.1, (v2.2.2.2.2.2.2.1, (0, (2, (0, (0, (0, (false, ())))))))))))), ((0, (1, (0, (0, (0, ()))))), ()))))).bind (fun (v6 : VenueT) =>
         some (v6, (0, ())))
       else ((g_ref16_with ((v5, a.1.2), ((v2.2.1, (v2.2.2.1, (v2.2.2.2.1, (v2.2.2.2.2.1, (v2.2.2.2.2.2.1, (v2.2.2.2.2.2.2.1, (0, (3, (0, (0, (0, (false, ())))))))))))), ((0, (2, (0, (0, (0, ()))))), ()))))).bind (fun (v7 : VenueT) =>
        some (v7, (0, ())))
      else (
       bif (decide (v3 < 0)) then some true
       else ((getI a.1.2.1 v3)).bind (fun (v8 : OrderT) =>
        some (v8.2.2.2.2.2.2.2.1 != 2))).bind (fun (v9 : Bool) =>
       bif v9 then some ((v5, a.1.2), (0, ()))
       else ((getI a.1.2.1 v3)).bind (fun (v10 : OrderT) =>
        bif (v2.1 == 3) then bif a.2.1 then ((g_ref16_with ((v5, a.1.2), ((v10.1, (v10.2.1, (v10.2.2.1, (v10.2.2.2.1, (v10.2.2.2.2.1, (v10.2.2.2.2.2.1, (v10.2.2.2.2.2.2.1, (3, v10.2.2.2.2.2.2.2.2)))))))), ((0, (4, (0, (0, (0, ()))))), ()))))).bind (fun (v11 : VenueT) =>
           some (v11, (0, ())))
         else some ((v5, a.1.2), (0, ()))
        else bif (decide (v2.2.2.2.2.2.2.2.1 ≤ v10.2.2.2.2.2.2.2.2.2.2.1)) then some ((v5, a.1.2), (0, ()))
        else bif (a.2.1 && (decide (v2.2.2.2.2.2.1 > v10.2.2.2.2.2.2.1))) then ((g_ref16_with ((v5, a.1.2), ((v10.1, (v10.2.1, (v10.2.2.1, (v10.2.2.2.1, (v2.2.2.2.2.2.1, (v2.2.2.2.2.2.2.1, (v10.2.2.2.2.2.2.1, (v10.2.2.2.2.2.2.2.1, (v10.2.2.2.2.2.2.2.2.1, (v10.2.2.2.2.2.2.2.2.2.1, (v2.2.2.2.2.2.2.2.1, v10.2.2.2.2.2.2.2.2.2.2.2))))))))))), ((0, (5, (0, (v2.2.2.2.2.2.1, (v2.2.2.2.2.2.2.1, ()))))), ()))))).bind (fun (v12 : VenueT) =>
          some (v12, (0, ())))
        else ((g_ref16_with ((v5, a.1.2), ((v10.1, (v10.2.1, (v10.2.2.1, (v10.2.2.2.1, (v10.2.2.2.2.1, (v10.2.2.2.2.2.1, (v10.2.2.2.2.2.2.1, (v10.2.2.2.2.2.2.2.1, (v10.2.2.2.2.2.2.2.2.1, (v10.2.2.2.2.2.2.2.2.2.1, (v2.2.2.2.2.2.2.2.1, v10.2.2.2.2.2.2.2.2.2.2.2))))))))))), ((0, (6, (0, (0, (0, ()))))), ()))))).bind (fun (v13 : VenueT) =>
         some (v13, (0, ()))))))))))
noncomputable def tc18 : TCn := ⟨[shVenue, .bool], [shVenue, (.int .i64)], g_ref16_Take⟩
noncomputable def T18 := (18, tc18) :: T47
theorem t18 : Tbl Try.prog lbL T18 := Tbl.add t47 hn 8 18 tc18 (by kernel_rfl) (fun a => by kernel_rfl)
noncomputable def g_ref16_Fill (a : (VenueT × (Int × (Int × Unit)))) : Option (VenueT × (Int × Unit)) :=
 ((g_ref16_Right (a.1, ()))).bind (fun (v1 : Bool) =>
  bif ((!v1) || (decide (a.2.2.1 < 1))) then some (a.1, (1, ()))
  else ((g_ref16_Find (a.1, (a.2.1, ())))).bind (fun (v2 : Int) =>
   bif (decide (v2 < 0)) then some (a.1, (7, ()))
   else ((getI a.1.2.1 v2)).bind (fun (v3 : OrderT) =>
    bif ((v3.2.2.2.2.2.2.2.1 != 2) || (decide (a.2.2.1 > (IntKind.wrap .i64 (v3.2.2.2.2.1 - v3.2.2.2.2.2.2.1))))) then some (a.1, (8, ()))
    else bif (decide ((a.1.2.2.1.length : Int) ≥ 400)) then some (a.1, (6, ()))
    else (
     bif ((IntKind.wrap .i64 (v3.2.2.2.2.2.2.1 + a.2.2.1)) == v3.2.2.2.2.1) then some (v3.1, (v3.2.1, (v3.2.2.1, (v3.2.2.2.1, (v3.2.2.2.2.1, (v3.2.2.2.2.2.1, ((IntKind.wrap .i64 (v3.2.2.2.2.2.2.1 + a.2.2.1)), (3, v3.2.2.2.2.2.2.2.2))))))))
     else some (v3.1, (v3.2.1, (v3.2.2.1, (v3.2.2.2.1, (v3.2.2.2.2.1, (v3.2.2.2.2.2.1, ((IntKind.wrap .i64 (v3.2.2.2.2.2.2.1 + a.2.2.1)), v3.2.2.2.2.2.2.2)))))))).bind (fun (v4 : OrderT) =>
     ((g_ref16_with (a.1, (v4, ((0, (3, (0, (a.2.2.1, (0, ()))))), ()))))).bind (fun (v5 : VenueT) =>
      some (v5, (0, ())))))))
noncomputable def tc20 : TCn := ⟨[shVenue, (.int .i64), (.int .i64)], [shVenue, (.int .i64)], g_ref16_Fill⟩
noncomputable def T20 := (20, tc20) :: T18
theorem t20 : Tbl Try.prog lbL T20 := Tbl.add t18 hn 8 20 tc20 (by kernel_rfl) (fun a => by kernel_rfl)
noncomputable def g_ref16_Out (a : (VenueT × (Int × Unit))) : Option (VenueT × (Int × Unit)) :=
 ((g_ref16_Right (a.1, ()))).bind (fun (v1 : Bool) =>
  bif (!v1) then some (a.1, (1, ()))
  else ((g_ref16_Find a)).bind (fun (v2 : Int) =>
   bif (decide (v2 < 0)) then some (a.1, (7, ()))
   else ((getI a.1.2.1 v2)).bind (fun (v3 : OrderT) =>
    bif (v3.2.2.2.2.2.2.2.1 != 2) then some (a.1, (8, ()))
    else bif (decide ((a.1.2.2.1.length : Int) ≥ 400)) then some (a.1, (6, ()))
    else ((g_ref16_with (a.1, ((v3.1, (v3.2.1, (v3.2.2.1, (v3.2.2.2.1, (v3.2.2.2.2.1, (v3.2.2.2.2.2.1, (v3.2.2.2.2.2.2.1, (3, v3.2.2.2.2.2.2.2.2)))))))), ((0, (4, (0, (0, (0, ()))))), ()))))).bind (fun (v4 : VenueT) =>
     some (v4, (0, ()))))))
noncomputable def tc22 : TCn := ⟨[shVenue, (.int .i64)], [shVenue, (.int .i64)], g_ref16_Out⟩
noncomputable def T22 := (22, tc22) :: T20
theorem t22 : Tbl Try.prog lbL T22 := Tbl.add t20 hn 8 22 tc22 (by kernel_rfl) (fun a => by kernel_rfl)
noncomputable def g_ref16_SameMsgs (a : ((List MsgT) × ((List MsgT) × Unit))) : Option Bool :=
 bif ((a.1.length : Int) != (a.2.1.length : Int)) then some false
 else (
  loopO (fun (v1 : (Int × Unit)) =>
   bif (decide (v1.1 < (a.1.length : Int))) then ((getI a.1 v1.1)).bind (fun (v2 : MsgT) =>
     ((getI a.2.1 v1.1)).bind (fun (v3 : MsgT) =>
      bif (!((v2.1 == v3.1) && ((v2.2.1 == v3.2.1) && ((v2.2.2.1 == v3.2.2.1) && ((v2.2.2.2.1 == v3.2.2.2.1) && ((v2.2.2.2.2.1 == v3.2.2.2.2.1) && ((v2.2.2.2.2.2.1 == v3.2.2.2.2.2.1) && ((v2.2.2.2.2.2.2.1 == v3.2.2.2.2.2.2.1) && ((v2.2.2.2.2.2.2.2.1 == v3.2.2.2.2.2.2.2.1) && ((v2.2.2.2.2.2.2.2.2.1 == v3.2.2.2.2.2.2.2.2.1) && true)))))))))) then ((some false).map .inr).map .inr
      else some (.inl ((IntKind.wrap .i64 (v1.1 + 1)), ()))))
   else (some (.inl ())).map .inr) (0, ())).bind (eX (fun (v4 : Unit) =>
  some true))
noncomputable def tc38 : TCn := ⟨[(.slice 9 shMsg), (.slice 9 shMsg)], [.bool], g_ref16_SameMsgs⟩
noncomputable def T38 := (38, tc38) :: T22
theorem t38 : Tbl Try.prog lbL T38 := Tbl.add t22 hn 8 38 tc38 (by kernel_rfl) (fun a => by kernel_rfl)
noncomputable def g_ref16_SameNotes (a : ((List NoteT) × ((List NoteT) × Unit))) : Option Bool :=
 bif ((a.1.length : Int) != (a.2.1.length : Int)) then some false
 else (
  loopO (fun (v1 : (Int × Unit)) =>
   bif (decide (v1.1 < (a.1.length : Int))) then ((getI a.1 v1.1)).bind (fun (v2 : NoteT) =>
     ((getI a.2.1 v1.1)).bind (fun (v3 : NoteT) =>
      bif (!((v2.1 == v3.1) && ((v2.2.1 == v3.2.1) && ((v2.2.2.1 == v3.2.2.1) && ((v2.2.2.2.1 == v3.2.2.2.1) && ((v2.2.2.2.2.1 == v3.2.2.2.2.1) && true)))))) then ((some false).map .inr).map .inr
      else some (.inl ((IntKind.wrap .i64 (v1.1 + 1)), ()))))
   else (some (.inl ())).map .inr) (0, ())).bind (eX (fun (v4 : Unit) =>
  some true))
noncomputable def tc39 : TCn := ⟨[(.slice 5 shNote), (.slice 5 shNote)], [.bool], g_ref16_SameNotes⟩
noncomputable def T39 := (39, tc39) :: T38
theorem t39 : Tbl Try.prog lbL T39 := Tbl.add t38 hn 8 39 tc39 (by kernel_rfl) (fun a => by kernel_rfl)
noncomputable def g_ref16_Same (a : (VenueT × (VenueT × Unit))) : Option Bool :=
 (
  bif ((a.1.2.1.length : Int) != (a.2.1.2.1.length : Int)) then some true
  else ((g_ref16_SameMsgs (a.1.1, (a.2.1.1, ())))).bind (fun (v1 : Bool) =>
   some (!v1))).bind (fun (v2 : Bool) =>
  (
   bif v2 then some true
   else ((g_ref16_SameNotes (a.1.2.2.1, a.2.1.2.2))).bind (fun (v3 : Bool) =>
    some (!v3))).bind (fun (v4 : Bool) =>
   bif v4 then some false
   else (
    loopO (fun (v5 : (Int × Unit)) =>
     bif (decide (v5.1 < (a.1.2.1.length : Int))) then ((getI a.1.2.1 v5.1)).bind (fun (v6 : OrderT) =>
       ((getI a.2.1.2.1 v5.1)).bind (fun (v7 : OrderT) =>
        bif (!((v6.1 == v7.1) && ((v6.2.1 == v7.2.1) && ((v6.2.2.1 == v7.2.2.1) && ((v6.2.2.2.1 == v7.2.2.2.1) && ((v6.2.2.2.2.1 == v7.2.2.2.2.1) && ((v6.2.2.2.2.2.1 == v7.2.2.2.2.2.1) && ((v6.2.2.2.2.2.2.1 == v7.2.2.2.2.2.2.1) && ((v6.2.2.2.2.2.2.2.1 == v7.2.2.2.2.2.2.2.1) && ((v6.2.2.2.2.2.2.2.2.1 == v7.2.2.2.2.2.2.2.2.1) && ((v6.2.2.2.2.2.2.2.2.2.1 == v7.2.2.2.2.2.2.2.2.2.1) && ((v6.2.2.2.2.2.2.2.2.2.2.1 == v7.2.2.2.2.2.2.2.2.2.2.1) && ((v6.2.2.2.2.2.2.2.2.2.2.2.1 == v7.2.2.2.2.2.2.2.2.2.2.2.1) && true))))))))))))) then ((some false).map .inr).map .inr
        else some (.inl ((IntKind.wrap .i64 (v5.1 + 1)), ()))))
     else (some (.inl ())).map .inr) (0, ())).bind (eX (fun (v8 : Unit) =>
    some true))))
noncomputable def tc16 : TCn := ⟨[shVenue, shVenue], [.bool], g_ref16_Same⟩
noncomputable def T16 := (16, tc16) :: T39
theorem t16 : Tbl Try.prog lbL T16 := Tbl.add t39 hn 8 16 tc16 (by kernel_rfl) (fun a => by kernel_rfl)
noncomputable def g_ref16_Short (a : (VenueT × Unit)) : Option Bool :=
 some (((decide ((a.1.1.length : Int) ≤ 450)) && (decide ((a.1.2.1.length : Int) ≤ 450))) && (decide ((a.1.2.2.1.length : Int) ≤ 450)))
noncomputable def tc7 : TCn := ⟨[shVenue], [.bool], g_ref16_Short⟩
noncomputable def T7 := (7, tc7) :: T16
theorem t7 : Tbl Try.prog lbL T7 := Tbl.add t16 hn 8 7 tc7 (by kernel_rfl) (fun a => by kernel_rfl)
noncomputable def g_law16_deed (a : (VenueT × (DeedT × Unit))) : Option VenueT :=
 (
  bif ((Int.tmod a.2.1.1 4) == 0) then ((g_venue_Take (a.1, a.2.1.2.2.2.2))).bind (fun (v1 : (VenueT × (Int × Unit))) =>
    some v1.1)
  else (
   bif ((Int.tmod a.2.1.1 4) == 1) then ((g_venue_Fill (a.1, ((IntKind.wrap .i64 ((IntKind.wrap .i64 (Int.tmod a.2.1.2.1 8)) + 1)), ((IntKind.wrap .i64 ((IntKind.wrap .i64 a.2.1.2.2.1) + 1)), ()))))).bind (fun (v2 : (VenueT × (Int × Unit))) =>
     some v2.1)
   else (
    bif ((Int.tmod a.2.1.1 4) == 2) then ((g_venue_Out (a.1, ((IntKind.wrap .i64 ((IntKind.wrap .i64 (Int.tmod a.2.1.2.1 8)) + 1)), ())))).bind (fun (v3 : (VenueT × (Int × Unit))) =>
      some v3.1)
    else (
     bif ((IntKind.wrap .i64 (1 + (Int.tmod (IntKind.wrap .i64 a.2.1.2.2.2.1) 3))) == 2) then some ((IntKind.wrap .i64 (1 + (Int.tmod (IntKind.wrap .i64 a.2.1.2.2.2.1) 3))), ((IntKind.wrap .i64 ((IntKind.wrap .i64 (Int.tmod a.2.1.2.1 8)) + 1)), (0, (0, (2, ((IntKind.wrap .i64 ((IntKind.wrap .i64 a.2.1.2.2.1) + 1)), (3, ((IntKind.wrap .i64 ((IntKind.wrap .i64 (Int.tdiv (IntKind.wrap .i64 a.2.1.2.2.2.1) 3)) + 1)), (0, ())))))))))
     else some ((IntKind.wrap .i64 (1 + (Int.tmod (IntKind.wrap .i64 a.2.1.2.2.2.1) 3))), ((IntKind.wrap .i64 ((IntKind.wrap .i64 (Int.tmod a.2.1.2.1 8)) + 1)), (0, (0, (2, ((IntKind.wrap .i64 ((IntKind.wrap .i64 a.2.1.2.2.1) + 1)), (3, (0, (0, ())))))))))).bind (fun (v4 : MsgT) =>
     (
      bif (v4.1 == 3) then some (v4.1, (v4.2.1, (v4.2.2.1, (v4.2.2.2.1, (v4.2.2.2.2.1, (0, (0, v4.2.2.2.2.2.2.2)))))))
      else some v4).bind (fun (v5 : MsgT) =>
      ((g_venue_Send (a.1, (v5, ())))).bind (fun (v6 : (VenueT × (Int × Unit))) =>
       some v6.1)))).bind (fun (v7 : VenueT) =>
    some v7)).bind (fun (v8 : VenueT) =>
   some v8)).bind (fun (v9 : VenueT) =>
  some v9)
noncomputable def tc23 : TCn := ⟨[shVenue, shDeed], [shVenue], g_law16_deed⟩
noncomputable def T23 := (23, tc23) :: T7
theorem t23 : Tbl Try.prog lbL T23 := Tbl.add t7 hn 8 23 tc23 (by kernel_rfl) (fun a => by kernel_rfl)
noncomputable def g_law16_awake (a : Unit) : Option Bool :=
 ((g_venue_Send (([], ([], ([], ()))), ((1, (4, (0, (0, (1, (9, (2, (0, (0, ()))))))))), ())))).bind (fun (v1 : (VenueT × (Int × Unit))) =>
  ((g_venue_Send (v1.1, ((1, (4, (0, (0, (1, (9, (2, (0, (0, ()))))))))), ())))).bind (fun (v2 : (VenueT × (Int × Unit))) =>
   ((g_venue_Take (v2.1, (true, ())))).bind (fun (v3 : (VenueT × (Int × Unit))) =>
    ((g_venue_Fill (v3.1, (4, (3, ()))))).bind (fun (v4 : (VenueT × (Int × Unit))) =>
     ((g_venue_Take (v4.1, (true, ())))).bind (fun (v5 : (VenueT × (Int × Unit))) =>
      ((g_venue_Take (v5.1, (true, ())))).bind (fun (v6 : (VenueT × (Int × Unit))) =>
       ((g_venue_Fill (v5.1, (4, (7, ()))))).bind (fun (v7 : (VenueT × (Int × Unit))) =>
        (
         bif ((((((((v1.2.1 == 0) && (v2.2.1 == 0)) && (v3.2.1 == 0)) && (v4.2.1 == 0)) && (v5.2.1 == 0)) && (v6.2.1 == 7)) && (v7.2.1 == 8)) && ((v5.1.2.2.1.length : Int) == 2)) then ((getI v5.1.2.2.1 1)).bind (fun (v8 : NoteT) =>
           some ((v8.1 == 2) && ((v8.2.1 == 3) && ((v8.2.2.1 == 4) && ((v8.2.2.2.1 == 3) && ((v8.2.2.2.2.1 == 0) && true))))))
         else some false).bind (fun (v9 : Bool) =>
         (
          bif v9 then ((g_venue_Find (v5.1, (4, ())))).bind (fun (v10 : Int) =>
            some (v10 == 0))
          else some false).bind (fun (v11 : Bool) =>
          (
           bif v11 then ((g_venue_Right (v5.1, ()))).bind (fun (v12 : Bool) =>
             some v12)
           else some false).bind (fun (v13 : Bool) =>
           some v13))))))))))
noncomputable def tc6 : TCn := ⟨[], [.bool], g_law16_awake⟩
noncomputable def T6 := (6, tc6) :: T23
theorem t6 : Tbl Try.prog lbL T6 := Tbl.add t23 hn 8 6 tc6 (by kernel_rfl) (fun a => by kernel_rfl)
noncomputable def g_law16_VenueRight (a : (VenueT × (MsgT × (Bool × (Int × (Int × Unit)))))) : Option Bool :=
 ((g_law16_awake ())).bind (fun (v1 : Bool) =>
  bif (!v1) then some false
  else ((g_ref16_Short (a.1, ()))).bind (fun (v2 : Bool) =>
   bif (!v2) then some true
   else ((g_venue_Right (a.1, ()))).bind (fun (v3 : Bool) =>
    ((g_ref16_Right (a.1, ()))).bind (fun (v4 : Bool) =>
     (
      bif (v3 != v4) then some true
      else ((g_venue_RightMsg (a.2.1, ()))).bind (fun (v5 : Bool) =>
       ((g_ref16_RightMsg (a.2.1, ()))).bind (fun (v6 : Bool) =>
        some (v5 != v6)))).bind (fun (v7 : Bool) =>
      (
       bif v7 then some true
       else ((g_venue_Find (a.1, (a.2.2.2.1, ())))).bind (fun (v8 : Int) =>
        ((g_ref16_Find (a.1, (a.2.2.2.1, ())))).bind (fun (v9 : Int) =>
         some (v8 != v9)))).bind (fun (v10 : Bool) =>
       bif v10 then some false
       else ((g_venue_Send (a.1, (a.2.1, ())))).bind (fun (v11 : (VenueT × (Int × Unit))) =>
        ((g_ref16_Send (a.1, (a.2.1, ())))).bind (fun (v12 : (VenueT × (Int × Unit))) =>
         (
          bif (v11.2.1 != v12.2.1) then some true
          else ((g_ref16_Same (v11.1, (v12.1, ())))).bind (fun (v13 : Bool) =>
           some (!v13))).bind (fun (v14 : Bool) =>
          bif v14 then some false
          else ((g_venue_Take (a.1, (a.2.2.1, ())))).bind (fun (v15 : (VenueT × (Int × Unit))) =>
           ((g_ref16_Take (a.1, (a.2.2.1, ())))).bind (fun (v16 : (VenueT × (Int × Unit))) =>
            (
             bif (v15.2.1 != v16.2.1) then some true
             else ((g_ref16_Same (v15.1, (v16.1, ())))).bind (fun (v17 : Bool) =>
              some (!v17))).bind (fun (v18 : Bool) =>
             bif v18 then some false
             else ((g_venue_Fill (a.1, a.2.2.2))).bind (fun (v19 : (VenueT × (Int × Unit))) =>
              ((g_ref16_Fill (a.1, a.2.2.2))).bind (fun (v20 : (VenueT × (Int × Unit))) =>
               (
                bif (v19.2.1 != v20.2.1) then some true
                else ((g_ref16_Same (v19.1, (v20.1, ())))).bind (fun (v21 : Bool) =>
                 some (!v21))).bind (fun (v22 : Bool) =>
                bif v22 then some false
                else ((g_venue_Out (a.1, (a.2.2.2.1, ())))).bind (fun (v23 : (VenueT × (Int × Unit))) =>
                 ((g_ref16_Out (a.1, (a.2.2.2.1, ())))).bind (fun (v24 : (VenueT × (Int × Unit))) =>
                  (
                   bif (v23.2.1 == v24.2.1) then ((g_ref16_Same (v23.1, (v24.1, ())))).bind (fun (v25 : Bool) =>
                     some v25)
                   else some false).bind (fun (v26 : Bool) =>
                   some v26))))))))))))))))))
noncomputable def tc3 : TCn := ⟨[shVenue, shMsg, .bool, (.int .i64), (.int .i64)], [.bool], g_law16_VenueRight⟩
noncomputable def T3 := (3, tc3) :: T6
theorem t3 : Tbl Try.prog lbL T3 := Tbl.add t6 hn 8 3 tc3 (by kernel_rfl) (fun a => by kernel_rfl)
noncomputable def g_law16_VenueFilled (a : ((List DeedT) × Unit)) : Option Bool :=
 ((g_law16_awake ())).bind (fun (v1 : Bool) =>
  bif (!v1) then some false
  else bif (decide ((a.1.length : Int) > 60)) then some true
  else (
   loopO (fun (v2 : (Int × VenueT)) =>
    bif (decide (v2.1 < (a.1.length : Int))) then ((getI a.1 v2.1)).bind (fun (v3 : DeedT) =>
      ((g_law16_deed (v2.2, (v3, ())))).bind (fun (v4 : VenueT) =>
       some (.inl ((IntKind.wrap .i64 (v2.1 + 1)), v4))))
    else (some v2.2).map .inr) (0, ([], ([], ([], ()))))).bind (fun (v5 : VenueT) =>
   (
    loopO (fun (v6 : (Int × Unit)) =>
     bif (decide (v6.1 ≤ 8)) then ((g_venue_Find (v5, v6))).bind (fun (v7 : Int) =>
       (
        loopO (fun (v8 : BoundsErrorT) =>
         bif (decide (v8.2.2.2.1 < (v5.2.2.1.length : Int))) then (
           ((getI v5.2.2.1 v8.2.2.2.1)).bind (fun (v9 : NoteT) =>
            bif (v9.2.2.1 != v6.1) then some (.inl (v8.1, (v8.2.1, (v8.2.2.1, ()))))
            else bif (v8.2.2.1 || ((v8.2.1 == 0) && (decide (v9.2.1 > 2)))) then (((((some false).map .inr).map .inr).map .inr).map .inr).map .inr
            else (
             bif (v9.2.1 == 1) then some ((v9.2.1 == 1), ())
             else some ((v9.2.1 == 2), ())).bind (fun (v10 : (Bool × Unit)) =>
             (
              bif v10.1 then some (v8.1, ((IntKind.wrap .i64 (v8.2.1 + 1)), ((v9.2.1 == 2), ())))
              else (
               bif (v9.2.1 == 3) then some ((IntKind.wrap .i64 (v8.1 + v9.2.2.2.1)), (v8.2.2.1, ()))
               else (
                bif (v9.2.1 == 4) then some (true, ())
                else some (v8.2.2.1, ())).bind (fun (v11 : (Bool × Unit)) =>
                some (v8.1, v11))).bind (fun (v12 : (Int × (Bool × Unit))) =>
               some (v12.1, (v8.2.1, v12.2)))).bind (fun (v13 : (Int × (Int × (Bool × Unit)))) =>
              some (.inl v13))))).bind (eX (fun (v14 : (Int × (Int × (Bool × Unit)))) =>
           some (.inl (v14.1, (v14.2.1, (v14.2.2.1, ((IntKind.wrap .i64 (v8.2.2.2.1 + 1)), ())))))))
         else (some (.inl (v8.1, (v8.2.1, (v8.2.2.1, ()))))).map .inr) (0, (0, (false, (0, ()))))).bind (eX (fun (v15 : (Int × (Int × (Bool × Unit)))) =>
        bif (((decide (v15.2.1 > 1)) || ((v15.2.1 == 1) != (decide (v7 ≥ 0)))) || (decide (v7 ≥ (v5.2.1.length : Int)))) then ((some false).map .inr).map .inr
        else (
         bif (decide (v7 ≥ 0)) then ((getI v5.2.1 v7)).bind (fun (v16 : OrderT) =>
           bif (((v16.2.2.2.2.2.2.1 != v15.1) || (decide (v15.1 > v16.2.2.2.2.1))) || ((v16.2.2.2.2.2.2.2.1 == 3) != (v15.2.2.1 || (v15.1 == v16.2.2.2.2.1)))) then (((some false).map .inr).map .inr).map .inr
           else some (.inl ()))
         else some (.inl ())).bind (eX (fun (v17 : Unit) =>
         some (.inl ((IntKind.wrap .i64 (v6.1 + 1)), ())))))))
     else (some (.inl ())).map .inr) (1, ())).bind (eX (fun (v18 : Unit) =>
    ((g_venue_Right (v5, ()))).bind (fun (v19 : Bool) =>
     some v19)))))
noncomputable def tc4 : TCn := ⟨[(.slice 5 shDeed)], [.bool], g_law16_VenueFilled⟩
noncomputable def T4 := (4, tc4) :: T3
theorem t4 : Tbl Try.prog lbL T4 := Tbl.add t3 hn 8 4 tc4 (by kernel_rfl) (fun a => by kernel_rfl)
noncomputable def g_law16_VenueFollows (a : (Int × (Int × ((List DeedT) × Unit)))) : Option Bool :=
 ((g_law16_awake ())).bind (fun (v1 : Bool) =>
  bif (!v1) then some false
  else bif (decide ((a.2.2.1.length : Int) > 60)) then some true
  else ((g_order_Begin ((1, (1, (0, (0, (1, ((IntKind.wrap .i64 ((IntKind.wrap .i64 a.1) + 1)), ((IntKind.wrap .i64 ((IntKind.wrap .i64 a.2.1) + 1)), (0, (0, (0, (false, (0, (0, ()))))))))))))), ()))).bind (fun (v2 : (OrderT × (Int × Unit))) =>
   ((g_venue_Send (([], ([], ([], ()))), ((1, (1, (0, (0, (1, (v2.1.2.2.2.2.1, (v2.1.2.2.2.2.2.1, (0, (0, ()))))))))), ())))).bind (fun (v3 : (VenueT × (Int × Unit))) =>
    bif ((v2.2.1 != 0) || (v3.2.1 != 0)) then some false
    else (
     loopO (fun (v4 : (Int × (Int × (Int × (Int × (Int × (Int × (Int × (Int × (Int × (Int × (Int × (Int × (Int × (Bool × VenueT))))))))))))))) =>
      bif (decide (v4.2.1 < (a.2.2.1.length : Int))) then ((getI a.2.2.1 v4.2.1)).bind (fun (v5 : DeedT) =>
        (
         bif ((Int.tmod v5.1 4) == 0) then ((getI a.2.2.1 v4.2.1)).bind (fun (v6 : DeedT) =>
           ((g_venue_Take (v4.2.2.2.2.2.2.2.2.2.2.2.2.2.2, v6.2.2.2.2))).bind (fun (v7 : (VenueT × (Int × Unit))) =>
            some (.inl (v4.2.2.1, (v4.2.2.2.1, (v4.2.2.2.2.1, (v4.2.2.2.2.2.1, (v4.2.2.2.2.2.2.1, (v4.2.2.2.2.2.2.2.1, (v4.2.2.2.2.2.2.2.2.1, (v4.2.2.2.2.2.2.2.2.2.1, (v4.2.2.2.2.2.2.2.2.2.2.1, (v4.2.2.2.2.2.2.2.2.2.2.2.1, (v4.2.2.2.2.2.2.2.2.2.2.2.2.1, (v4.2.2.2.2.2.2.2.2.2.2.2.2.2.1, v7.1)))))))))))))))
         else (
          bif ((Int.tmod v5.1 4) == 1) then ((getI a.2.2.1 v4.2.1)).bind (fun (v8 : DeedT) =>
            ((g_venue_Fill (v4.2.2.2.2.2.2.2.2.2.2.2.2.2.2, (1, ((IntKind.wrap .i64 ((IntKind.wrap .i64 v8.2.2.1) + 1)), ()))))).bind (fun (v9 : (VenueT × (Int × Unit))) =>
             some (.inl (v4.2.2.1, (v4.2.2.2.1, (v4.2.2.2.2.1, (v4.2.2.2.2.2.1, (v4.2.2.2.2.2.2.1, (v4.2.2.2.2.2.2.2.1, (v4.2.2.2.2.2.2.2.2.1, (v4.2.2.2.2.2.2.2.2.2.1, (v4.2.2.2.2.2.2.2.2.2.2.1, (v4.2.2.2.2.2.2.2.2.2.2.2.1, (v4.2.2.2.2.2.2.2.2.2.2.2.2.1, (v4.2.2.2.2.2.2.2.2.2.2.2.2.2.1, v9.1)))))))))))))))
          else (
           bif ((Int.tmod v5.1 4) == 2) then ((getI a.2.2.1 v4.2.1)).bind (fun (v10 : DeedT) =>
             (
              bif ((Int.tmod v10.2.2.1 8) == 0) then ((g_venue_Out (v4.2.2.2.2.2.2.2.2.2.2.2.2.2.2, (1, ())))).bind (fun (v11 : (VenueT × (Int × Unit))) =>
                some v11.1)
              else some v4.2.2.2.2.2.2.2.2.2.2.2.2.2.2).bind (fun (v12 : VenueT) =>
              some (.inl (v4.2.2.1, (v4.2.2.2.1, (v4.2.2.2.2.1, (v4.2.2.2.2.2.1, (v4.2.2.2.2.2.2.1, (v4.2.2.2.2.2.2.2.1, (v4.2.2.2.2.2.2.2.2.1, (v4.2.2.2.2.2.2.2.2.2.1, (v4.2.2.2.2.2.2.2.2.2.2.1, (v4.2.2.2.2.2.2.2.2.2.2.2.1, (v4.2.2.2.2.2.2.2.2.2.2.2.2.1, (v4.2.2.2.2.2.2.2.2.2.2.2.2.2.1, v12)))))))))))))))
           else ((getI a.2.2.1 v4.2.1)).bind (fun (v13 : DeedT) =>
            ((getI a.2.2.1 v4.2.1)).bind (fun (v14 : DeedT) =>
             ((g_order_Change ((v4.2.2.1, (v4.2.2.2.1, (v4.2.2.2.2.1, (v4.2.2.2.2.2.1, (v4.2.2.2.2.2.2.1, (v4.2.2.2.2.2.2.2.1, (v4.2.2.2.2.2.2.2.2.1, (v4.2.2.2.2.2.2.2.2.2.1, (v4.2.2.2.2.2.2.2.2.2.2.1, (v4.2.2.2.2.2.2.2.2.2.2.2.1, (v4.2.2.2.2.2.2.2.2.2.2.2.2.1, (v4.2.2.2.2.2.2.2.2.2.2.2.2.2.1, ())))))))))))), ((IntKind.wrap .i64 ((IntKind.wrap .i64 v13.2.2.1) + 1)), ((IntKind.wrap .i64 ((IntKind.wrap .i64 v14.2.2.2.1) + 1)), ()))))).bind (fun (v15 : (OrderT × (Int × Unit))) =>
              (
               bif (v15.2.1 == 0) then ((g_venue_Send (v4.2.2.2.2.2.2.2.2.2.2.2.2.2.2, ((2, (1, (0, (0, (1, (v15.1.2.2.2.2.2.2.2.2.1, (v15.1.2.2.2.2.2.2.2.2.2.1, (v15.1.2.2.2.2.2.2.2.2.2.2.1, (0, ()))))))))), ())))).bind (fun (v16 : (VenueT × (Int × Unit))) =>
                 bif (v16.2.1 != 0) then ((((((some false).map .inr).map .inr).map .inr).map .inr).map .inr).map .inr
                 else some (.inl (v15.1.1, (v15.1.2.1, (v15.1.2.2.1, (v15.1.2.2.2.1, (v15.1.2.2.2.2.1, (v15.1.2.2.2.2.2.1, (v15.1.2.2.2.2.2.2.1, (v15.1.2.2.2.2.2.2.2.1, (v15.1.2.2.2.2.2.2.2.2.1, (v15.1.2.2.2.2.2.2.2.2.2.1, (v15.1.2.2.2.2.2.2.2.2.2.2.1, (v15.1.2.2.2.2.2.2.2.2.2.2.2.1, v16.1))))))))))))))
               else some (.inl v4.2.2)).bind (eX (fun (v17 : (Int × (Int × (Int × (Int × (Int × (Int × (Int × (Int × (Int × (Int × (Int × (Bool × VenueT))))))))))))) =>
               some (.inl v17))))))).bind (eX (fun (v18 : (Int × (Int × (Int × (Int × (Int × (Int × (Int × (Int × (Int × (Int × (Int × (Bool × VenueT))))))))))))) =>
           some (.inl v18)))).bind (eX (fun (v19 : (Int × (Int × (Int × (Int × (Int × (Int × (Int × (Int × (Int × (Int × (Int × (Bool × VenueT))))))))))))) =>
          some (.inl v19)))).bind (eX (fun (v20 : (Int × (Int × (Int × (Int × (Int × (Int × (Int × (Int × (Int × (Int × (Int × (Bool × VenueT))))))))))))) =>
         (
          loopO (fun (v21 : (Int × OrderT)) =>
           ((getI a.2.2.1 v4.2.1)).bind (fun (v22 : DeedT) =>
            bif (((Int.tmod v22.2.2.2.1 2) == 0) && (decide (v21.1 < (v20.2.2.2.2.2.2.2.2.2.2.2.2.2.2.1.length : Int)))) then ((getI v20.2.2.2.2.2.2.2.2.2.2.2.2.2.2.1 v21.1)).bind (fun (v23 : NoteT) =>
              ((g_order_Take (v21.2, (v23, ())))).bind (fun (v24 : (OrderT × (Int × Unit))) =>
               bif (v24.2.1 != 0) then ((((some false).map .inr).map .inr).map .inr).map .inr
               else some (.inl ((IntKind.wrap .i64 (v21.1 + 1)), v24.1))))
            else (some (.inl v21)).map .inr)) (v4.1, (v20.1, (v20.2.1, (v20.2.2.1, (v20.2.2.2.1, (v20.2.2.2.2.1, (v20.2.2.2.2.2.1, (v20.2.2.2.2.2.2.1, (v20.2.2.2.2.2.2.2.1, (v20.2.2.2.2.2.2.2.2.1, (v20.2.2.2.2.2.2.2.2.2.1, (v20.2.2.2.2.2.2.2.2.2.2.1, (v20.2.2.2.2.2.2.2.2.2.2.2.1, ())))))))))))))).bind (eX (fun (v25 : (Int × OrderT)) =>
          some (.inl (v25.1, ((IntKind.wrap .i64 (v4.2.1 + 1)), (v25.2.1, (v25.2.2.1, (v25.2.2.2.1, (v25.2.2.2.2.1, (v25.2.2.2.2.2.1, (v25.2.2.2.2.2.2.1, (v25.2.2.2.2.2.2.2.1, (v25.2.2.2.2.2.2.2.2.1, (v25.2.2.2.2.2.2.2.2.2.1, (v25.2.2.2.2.2.2.2.2.2.2.1, (v25.2.2.2.2.2.2.2.2.2.2.2.1, (v25.2.2.2.2.2.2.2.2.2.2.2.2.1, v20.2.2.2.2.2.2.2.2.2.2.2.2))))))))))))))))))))
      else (some (.inl (v4.1, v4.2.2))).map .inr) (0, (0, (v2.1.1, (v2.1.2.1, (v2.1.2.2.1, (v2.1.2.2.2.1, (v2.1.2.2.2.2.1, (v2.1.2.2.2.2.2.1, (v2.1.2.2.2.2.2.2.1, (v2.1.2.2.2.2.2.2.2.1, (v2.1.2.2.2.2.2.2.2.2.1, (v2.1.2.2.2.2.2.2.2.2.2.1, (v2.1.2.2.2.2.2.2.2.2.2.2.1, (v2.1.2.2.2.2.2.2.2.2.2.2.2.1, v3.1))))))))))))))).bind (eX (fun (v26 : (Int × (Int × (Int × (Int × (Int × (Int × (Int × (Int × (Int × (Int × (Int × (Int × (Bool × VenueT)))))))))))))) =>
     (
      loopO (fun (v27 : (Int × OrderT)) =>
       bif (decide (v27.1 < (v26.2.2.2.2.2.2.2.2.2.2.2.2.2.2.2.1.length : Int))) then ((getI v26.2.2.2.2.2.2.2.2.2.2.2.2.2.2.2.1 v27.1)).bind (fun (v28 : NoteT) =>
         ((g_order_Take (v27.2, (v28, ())))).bind (fun (v29 : (OrderT × (Int × Unit))) =>
          bif (v29.2.1 != 0) then ((some false).map .inr).map .inr
          else some (.inl ((IntKind.wrap .i64 (v27.1 + 1)), v29.1))))
       else (some (.inl v27.2)).map .inr) (v26.1, (v26.2.1, (v26.2.2.1, (v26.2.2.2.1, (v26.2.2.2.2.1, (v26.2.2.2.2.2.1, (v26.2.2.2.2.2.2.1, (v26.2.2.2.2.2.2.2.1, (v26.2.2.2.2.2.2.2.2.1, (v26.2.2.2.2.2.2.2.2.2.1, (v26.2.2.2.2.2.2.2.2.2.2.1, (v26.2.2.2.2.2.2.2.2.2.2.2.1, (v26.2.2.2.2.2.2.2.2.2.2.2.2.1, ())))))))))))))).bind (eX (fun (v30 : OrderT) =>
      ((g_venue_Find (v26.2.2.2.2.2.2.2.2.2.2.2.2.2, (1, ())))).bind (fun (v31 : Int) =>
       bif (decide (v31 < 0)) then some ((v30.2.2.2.2.2.2.2.1 == 1) && ((v26.2.2.2.2.2.2.2.2.2.2.2.2.2.2.2.1.length : Int) == 0))
       else bif (decide (v31 ≥ (v26.2.2.2.2.2.2.2.2.2.2.2.2.2.2.1.length : Int))) then some false
       else ((getI v26.2.2.2.2.2.2.2.2.2.2.2.2.2.2.1 v31)).bind (fun (v32 : OrderT) =>
        some ((((v32.2.2.2.2.1 == v30.2.2.2.2.1) && (v32.2.2.2.2.2.1 == v30.2.2.2.2.2.1)) && (v32.2.2.2.2.2.2.1 == v30.2.2.2.2.2.2.1)) && (v32.2.2.2.2.2.2.2.1 == v30.2.2.2.2.2.2.2.1)))))))))))
noncomputable def tc5 : TCn := ⟨[(.int .u8), (.int .u8), (.slice 5 shDeed)], [.bool], g_law16_VenueFollows⟩
noncomputable def T5 := (5, tc5) :: T4
theorem t5 : Tbl Try.prog lbL T5 := Tbl.add t4 hn 8 5 tc5 (by kernel_rfl) (fun a => by kernel_rfl)
end Go.AI
