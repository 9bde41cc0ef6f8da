/- What Go functions come to, as functions of data with a kind; printed by a program, with the proof that the given functions answer just that. -/
import Derived.Test.YtgpnkkhfnljfmaaLF
import Derived.Test.YtgpnkkhfnljfmaaProg
namespace Go.AI
open Go.Proofs
set_option linter.unusedVariables false
abbrev NoteT := (Int × (Int × (Int × (Int × (Int × Unit)))))
abbrev shNote : Sh := (.cons (.int .i64) (.cons (.int .i64) (.cons (.int .i64) (.cons (.int .i64) (.cons (.int .i64) .nil)))))
abbrev FeedT := ((List NoteT) × (Bool × Unit))
abbrev shFeed : Sh := (.cons (.slice 5 shNote) (.cons .bool .nil))
def hnL : List (Nat × List (Nat × Hint)) := [(19, [(1, .j []), (2, .j [⟨.t 5, [.v (.int .i64)]⟩, ⟨.t 24, [.v (.int .i64)]⟩])]),
 (20, [(1, .j []), (2, .j [⟨.t 5, [.v (.int .i64)]⟩])]),
 (21, [(1, .j []), (2, .j [⟨.t 5, [.v (.int .i64)]⟩])]),
 (22, [(1, .j []), (2, .j [⟨.t 5, [.v (.int .i64)]⟩])]),
 (53, [(0, .j []), (1, .j [⟨.t 9, [.v (.int .i64)]⟩])]),
 (16, [(1, .j [⟨.t 13, [.v .bool]⟩]), (2, .j [⟨.t 13, [.v .bool]⟩])]),
 (17, [(4, .j [⟨.t 9, [.r shNote]⟩, ⟨.t 10, [.r shNote]⟩]), (5, .j [⟨.t 9, [.r shNote]⟩, ⟨.t 10, [.r shNote]⟩, ⟨.t 11, [.v (.int .i64)]⟩]), (8, .j [⟨.t 9, [.r shNote]⟩, ⟨.t 10, [.r shNote]⟩]), (9, .j [⟨.t 10, [.r shNote]⟩, ⟨.t 12, [.v .bool]⟩]), (10, .j [⟨.t 10, [.r shNote]⟩, ⟨.t 12, [.v .bool]⟩, ⟨.t 13, [.v (.int .i64)]⟩]), (13, .j [⟨.t 12, [.v .bool]⟩]), (14, .j [⟨.t 10, [.r shNote]⟩, ⟨.t 12, [.v .bool]⟩]), (15, .j [⟨.t 10, [.r shNote]⟩])]),
 (4, [(2, .j [⟨.b 6 [], [.v (.slice 5 shNote), .v .bool]⟩]), (3, .j [⟨.t 7, [.v (.int .i64)]⟩, ⟨.t 8, [.v (.int .i64)]⟩, ⟨.b 6 [], [.v (.slice 5 shNote), .v .bool]⟩]), (7, .j [⟨.t 7, [.v (.int .i64)]⟩]), (8, .j [⟨.t 7, [.v (.int .i64)]⟩, ⟨.t 12, [.v (.int .i64)]⟩])]),
 (5, [(2, .j [⟨.t 8, [.r (.int .i64)]⟩]), (3, .j [⟨.t 8, [.r (.int .i64)]⟩, ⟨.t 9, [.v (.int .i64)]⟩]), (6, .j [⟨.t 8, [.r (.int .i64)]⟩]), (7, .j [⟨.t 10, [.v (.int .i64)]⟩, ⟨.t 8, [.r (.int .i64)]⟩]), (10, .j [⟨.t 8, [.r (.int .i64)]⟩]), (11, .j [⟨.t 8, [.r (.int .i64)]⟩, ⟨.t 12, [.v (.int .i64)]⟩]), (14, .j [⟨.t 14, [.v (.int .i64)]⟩, ⟨.b 13 [], [.v (.slice 5 shNote), .v .bool]⟩]), (15, .j [⟨.t 14, [.v (.int .i64)]⟩, ⟨.t 15, [.v (.int .i64)]⟩, ⟨.b 13 [], [.v (.slice 5 shNote), .v .bool]⟩])]),
 (80, [(0, .j [⟨.t 9, [.v (.int .i64)]⟩]), (1, .j [⟨.t 9, [.v (.int .i64)]⟩, ⟨.t 10, [.v (.int .i64)]⟩]), (4, .j [⟨.t 9, [.v (.int .i64)]⟩, ⟨.t 10, [.v (.int .i64)]⟩])])]
def hnOf : List (Nat × List (Nat × Hint)) → Nat → List (Nat × Hint)
  | [], _ => []
  | (k, x) :: l, f => match Nat.beq k f with
    | true => x
    | false => hnOf l f
def hn : FuncId → List (Nat × Hint) := fun f => hnOf hnL f
def lbL : LbT := [(54, (.clone 5 40, shNote)), (56, (.ins 5 40, shNote))]
theorem tLib : Tbl Try.prog lbL [] := Tbl.libs fun f k sh h => by
  unfold lbL at h
  try simp only [findL] at h
  split at h
  · rename_i e
    cases h
    rw [← Nat.eq_of_beq_eq_true e]
    exact cloneOk (t := 22) (tb := 4) (e := 26) (by unfold fnIs; kernel_rfl) (by kernel_rfl) (by kernel_rfl)
  try simp only [findL] at h
  split at h
  · rename_i e
    cases h
    rw [← Nat.eq_of_beq_eq_true e]
    exact insOk (t := 22) (ti := 3) (tb := 4) (e := 26) (fo := 82) (fr := 83) (by unfold fnIs; kernel_rfl) (by unfold overIs; kernel_rfl) (by kernel_rfl) (by kernel_rfl) (by kernel_rfl) (by kernel_rfl)
  cases h
noncomputable def g_feed_Right (a : (FeedT × (Int × Unit))) : Option Bool :=
 bif (((decide (a.2.1 < 1)) || (decide (a.2.1 > 1000000001))) || (decide ((a.1.1.length : Int) > 8))) then some false
 else (
  loopO (fun (v1 : (Int × (Int × Unit))) =>
   bif (decide (v1.2.1 < (a.1.1.length : Int))) then ((getI a.1.1 v1.2.1)).bind (fun (v2 : NoteT) =>
     bif ((decide (v2.1 ≤ v1.1)) || (decide (v2.1 > (IntKind.wrap .i64 (a.2.1 + 8))))) then ((some false).map .inr).map .inr
     else some (.inl (v2.1, ((IntKind.wrap .i64 (v1.2.1 + 1)), ()))))
   else (some (.inl ())).map .inr) (a.2.1, (0, ()))).bind (eX (fun (v3 : Unit) =>
  some true))
noncomputable def tc19 : TCn := ⟨[shFeed, (.int .i64)], [.bool], g_feed_Right⟩
noncomputable def T19 := (19, tc19) :: ([] : List (FuncId × TCn))
theorem t19 : Tbl Try.prog lbL T19 := Tbl.add tLib hn 6 19 tc19 (by kernel_rfl) (fun a => by kernel_rfl)
noncomputable def g_ref17_Right (a : (FeedT × (Int × Unit))) : Option Bool :=
 bif (((decide (a.2.1 < 1)) || (decide (a.2.1 > 1000000001))) || (decide ((a.1.1.length : Int) > 8))) then some false
 else (
  loopO (fun (v1 : (Int × Unit)) =>
   bif (decide (v1.1 < (a.1.1.length : Int))) then ((getI a.1.1 v1.1)).bind (fun (v2 : NoteT) =>
     (
      bif ((decide (v2.1 ≤ a.2.1)) || (decide ((IntKind.wrap .i64 (v2.1 - 8)) > a.2.1))) then some true
      else (
       bif (decide (v1.1 > 0)) then ((getI a.1.1 (IntKind.wrap .i64 (v1.1 - 1)))).bind (fun (v3 : NoteT) =>
         some (decide (v2.1 ≤ v3.1)))
       else some false).bind (fun (v4 : Bool) =>
       some v4)).bind (fun (v5 : Bool) =>
      bif v5 then ((some false).map .inr).map .inr
      else some (.inl ((IntKind.wrap .i64 (v1.1 + 1)), ()))))
   else (some (.inl ())).map .inr) (0, ())).bind (eX (fun (v6 : Unit) =>
  some true))
noncomputable def tc20 : TCn := ⟨[shFeed, (.int .i64)], [.bool], g_ref17_Right⟩
noncomputable def T20 := (20, tc20) :: T19
theorem t20 : Tbl Try.prog lbL T20 := Tbl.add t19 hn 6 20 tc20 (by kernel_rfl) (fun a => by kernel_rfl)
noncomputable def g_feed_Mend (a : (FeedT × Unit)) : Option FeedT :=
 some (a.1.1, (false, ()))
noncomputable def tc18 : TCn := ⟨[shFeed], [shFeed], g_feed_Mend⟩
noncomputable def T18 := (18, tc18) :: T20
theorem t18 : Tbl Try.prog lbL T18 := Tbl.add t20 hn 6 18 tc18 (by kernel_rfl) (fun a => by kernel_rfl)
noncomputable def g_ref17_Same (a : (FeedT × (FeedT × Unit))) : Option Bool :=
 bif ((a.1.2.1 != a.2.1.2.1) || ((a.1.1.length : Int) != (a.2.1.1.length : Int))) then some false
 else (
  loopO (fun (v1 : (Int × Unit)) =>
   bif (decide (v1.1 < (a.1.1.length : Int))) then ((getI a.1.1 v1.1)).bind (fun (v2 : NoteT) =>
     ((getI a.2.1.1 v1.1)).bind (fun (v3 : NoteT) =>
      bif (!((v2.1 == v3.1) && ((v2.2.1 == v3.2.1) && ((v2.2.2.1 == v3.2.2.1) && ((v2.2.2.2.1 == v3.2.2.2.1) && ((v2.2.2.2.2.1 == v3.2.2.2.2.1) && true)))))) then ((some false).map .inr).map .inr
      else some (.inl ((IntKind.wrap .i64 (v1.1 + 1)), ()))))
   else (some (.inl ())).map .inr) (0, ())).bind (eX (fun (v4 : Unit) =>
  some true))
noncomputable def tc21 : TCn := ⟨[shFeed, shFeed], [.bool], g_ref17_Same⟩
noncomputable def T21 := (21, tc21) :: T18
theorem t21 : Tbl Try.prog lbL T21 := Tbl.add t18 hn 6 21 tc21 (by kernel_rfl) (fun a => by kernel_rfl)
noncomputable def g_ref16_SameNotes (a : ((List NoteT) × ((List NoteT) × Unit))) : Option Bool :=
 bif ((a.1.length : Int) != (a.2.1.length : Int)) then some false
 else (
  loopO (fun (v1 : (Int × Unit)) =>
   bif (decide (v1.1 < (a.1.length : Int))) then ((getI a.1 v1.1)).bind (fun (v2 : NoteT) =>
     ((getI a.2.1 v1.1)).bind (fun (v3 : NoteT) =>
      bif (!((v2.1 == v3.1) && ((v2.2.1 == v3.2.1) && ((v2.2.2.1 == v3.2.2.1) && ((v2.2.2.2.1 == v3.2.2.2.1) && ((v2.2.2.2.2.1 == v3.2.2.2.2.1) && true)))))) then ((some false).map .inr).map .inr
      else some (.inl ((IntKind.wrap .i64 (v1.1 + 1)), ()))))
   else (some (.inl ())).map .inr) (0, ())).bind (eX (fun (v4 : Unit) =>
  some true))
noncomputable def tc22 : TCn := ⟨[(.slice 5 shNote), (.slice 5 shNote)], [.bool], g_ref16_SameNotes⟩
noncomputable def T22 := (22, tc22) :: T21
theorem t22 : Tbl Try.prog lbL T22 := Tbl.add t21 hn 6 22 tc22 (by kernel_rfl) (fun a => by kernel_rfl)
noncomputable def g_feed_row (a : ((List NoteT) × (Int × Unit))) : Option Int :=
 (
  loopO (fun (v1 : (Int × Unit)) =>
   bif (decide (v1.1 < (a.1.length : Int))) then ((getI a.1 v1.1)).bind (fun (v2 : NoteT) =>
     bif (v2.1 != (IntKind.wrap .i64 (a.2.1 + v1.1))) then ((some v1.1).map .inr).map .inr
     else some (.inl ((IntKind.wrap .i64 (v1.1 + 1)), ())))
   else (some (.inl ())).map .inr) (0, ())).bind (eX (fun (v3 : Unit) =>
  some (a.1.length : Int)))
noncomputable def tc53 : TCn := ⟨[(.slice 5 shNote), (.int .i64)], [(.int .i64)], g_feed_row⟩
noncomputable def T53 := (53, tc53) :: T22
theorem t53 : Tbl Try.prog lbL T53 := Tbl.add t22 hn 6 53 tc53 (by kernel_rfl) (fun a => by kernel_rfl)
noncomputable def g_feed_place (a : ((List NoteT) × (Int × Unit))) : Option (Int × (Bool × Unit)) :=
 (
  loopO (fun (v1 : (Int × (Int × Unit))) =>
   bif (decide (v1.1 < v1.2.1)) then ((getI a.1 (IntKind.wrap .i64 (Int.fdiv (IntKind.wrap .u64 (IntKind.wrap .i64 (v1.1 + v1.2.1))) (2 ^ 1))))).bind (fun (v2 : NoteT) =>
     (
      bif (decide ((IntKind.wrap .i64 (v2.1 - a.2.1)) < 0)) then some ((IntKind.wrap .i64 ((IntKind.wrap .i64 (Int.fdiv (IntKind.wrap .u64 (IntKind.wrap .i64 (v1.1 + v1.2.1))) (2 ^ 1))) + 1)), v1.2)
      else some (v1.1, ((IntKind.wrap .i64 (Int.fdiv (IntKind.wrap .u64 (IntKind.wrap .i64 (v1.1 + v1.2.1))) (2 ^ 1))), ()))).bind (fun (v3 : (Int × (Int × Unit))) =>
      some (.inl v3)))
   else (some (v1.1, ())).map .inr) (0, ((a.1.length : Int), ()))).bind (fun (v4 : (Int × Unit)) =>
  bif (decide (v4.1 < (a.1.length : Int))) then ((getI a.1 v4.1)).bind (fun (v5 : NoteT) =>
    some (v4.1, (((IntKind.wrap .i64 (v5.1 - a.2.1)) == 0), ())))
  else some (v4.1, (false, ())))
noncomputable def tc55 : TCn := ⟨[(.slice 5 shNote), (.int .i64)], [(.int .i64), .bool], g_feed_place⟩
noncomputable def T55 := (55, tc55) :: T53
theorem t55 : Tbl Try.prog lbL T55 := Tbl.add t53 hn 6 55 tc55 (by kernel_rfl) (fun a => by kernel_rfl)
noncomputable def g_feed_Come (a : (FeedT × (NoteT × (Int × Unit)))) : Option (FeedT × ((List NoteT) × (Int × Unit))) :=
 ((g_feed_Right (a.1, a.2.2))).bind (fun (v1 : Bool) =>
  (
   bif (!v1) then some ((!v1), ())
   else (
    bif (decide (a.2.1.1 < 1)) then some ((decide (a.2.1.1 < 1)), ())
    else some ((decide (a.2.1.1 > 1000000000)), ())).bind (fun (v2 : (Bool × Unit)) =>
    some v2)).bind (fun (v3 : (Bool × Unit)) =>
   bif v3.1 then some (a.1, ([], (1, ())))
   else bif (decide (a.2.1.1 < a.2.2.1)) then some (a.1, ([], (0, ())))
   else bif (decide (a.2.1.1 > (IntKind.wrap .i64 (a.2.2.1 + 8)))) then some ((a.1.1, (true, ())), ([], (0, ())))
   else bif (a.2.1.1 == a.2.2.1) then ((g_feed_row (a.1.1, ((IntKind.wrap .i64 (a.2.2.1 + 1)), ())))).bind (fun (v4 : Int) =>
     ((appX [] (a.2.1 :: []) 40)).bind (fun (v5 : (List NoteT)) =>
      ((subI a.1.1 0 v4)).bind (fun (v6 : (List NoteT)) =>
       ((appX v5 v6 40)).bind (fun (v7 : (List NoteT)) =>
        ((subI a.1.1 v4 (a.1.1.length : Int))).bind (fun (v8 : (List NoteT)) =>
         ((appX [] v8 40)).bind (fun (v9 : (List NoteT)) =>
          some ((v9, a.1.2), (v7, (0, ())))))))))
   else ((g_feed_place (a.1.1, (a.2.1.1, ())))).bind (fun (v10 : (Int × (Bool × Unit))) =>
    bif (!v10.2.1) then ((appX [] a.1.1 40)).bind (fun (v11 : (List NoteT)) =>
      ((insX v11 v10.1 (a.2.1 :: []) 40)).bind (fun (v12 : (List NoteT)) =>
       some ((v12, a.1.2), ([], (0, ())))))
    else some (a.1, ([], (0, ()))))))
noncomputable def tc16 : TCn := ⟨[shFeed, shNote, (.int .i64)], [shFeed, (.slice 5 shNote), (.int .i64)], g_feed_Come⟩
noncomputable def T16 := (16, tc16) :: T55
theorem t16 : Tbl Try.prog lbL T16 := Tbl.add t55 hn 6 16 tc16 (by kernel_rfl) (fun a => by kernel_rfl)
noncomputable def g_ref17_Come (a : (FeedT × (NoteT × (Int × Unit)))) : Option (FeedT × ((List NoteT) × (Int × Unit))) :=
 ((g_ref17_Right (a.1, a.2.2))).bind (fun (v1 : Bool) =>
  bif (((!v1) || (decide (a.2.1.1 < 1))) || (decide (a.2.1.1 > 1000000000))) then some (a.1, ([], (1, ())))
  else bif (decide (a.2.1.1 < a.2.2.1)) then some (a.1, ([], (0, ())))
  else bif (decide ((IntKind.wrap .i64 (a.2.1.1 - a.2.2.1)) > 8)) then some ((a.1.1, (true, ())), ([], (0, ())))
  else bif (a.2.1.1 == a.2.2.1) then ((appX [] (a.2.1 :: []) 40)).bind (fun (v2 : (List NoteT)) =>
    (
     loopO (fun (v3 : ((List NoteT) × ((List NoteT) × (Int × Unit)))) =>
      bif (decide (v3.2.2.1 < (a.1.1.length : Int))) then (
        bif ((v3.2.1.length : Int) == 0) then ((getI a.1.1 v3.2.2.1)).bind (fun (v4 : NoteT) =>
          some (v4.1 == (IntKind.wrap .i64 (a.2.2.1 + (v3.1.length : Int)))))
        else some false).bind (fun (v5 : Bool) =>
        (
         bif v5 then ((getI a.1.1 v3.2.2.1)).bind (fun (v6 : NoteT) =>
           ((appX v3.1 (v6 :: []) 40)).bind (fun (v7 : (List NoteT)) =>
            some (v7, (v3.2.1, ()))))
         else ((getI a.1.1 v3.2.2.1)).bind (fun (v8 : NoteT) =>
          ((appX v3.2.1 (v8 :: []) 40)).bind (fun (v9 : (List NoteT)) =>
           some (v3.1, (v9, ()))))).bind (fun (v10 : ((List NoteT) × ((List NoteT) × Unit))) =>
         some (.inl (v10.1, (v10.2.1, ((IntKind.wrap .i64 (v3.2.2.1 + 1)), ()))))))
      else (some (v3.1, (v3.2.1, ()))).map .inr) (v2, ([], (0, ())))).bind (fun (v11 : ((List NoteT) × ((List NoteT) × Unit))) =>
     some ((v11.2.1, a.1.2), (v11.1, (0, ())))))
  else (
   loopO (fun (v12 : ((List NoteT) × (Bool × (Int × Unit)))) =>
    bif (decide (v12.2.2.1 < (a.1.1.length : Int))) then ((getI a.1.1 v12.2.2.1)).bind (fun (v13 : NoteT) =>
      (
       bif (v13.1 == a.2.1.1) then some (true, ())
       else some (v12.2.1, ())).bind (fun (v14 : (Bool × Unit)) =>
       ((getI a.1.1 v12.2.2.1)).bind (fun (v15 : NoteT) =>
        (
         bif ((decide (v15.1 > a.2.1.1)) && (!v14.1)) then ((appX v12.1 (a.2.1 :: []) 40)).bind (fun (v16 : (List NoteT)) =>
           some (v16, (true, ())))
         else some (v12.1, v14)).bind (fun (v17 : FeedT) =>
         ((getI a.1.1 v12.2.2.1)).bind (fun (v18 : NoteT) =>
          ((appX v17.1 (v18 :: []) 40)).bind (fun (v19 : (List NoteT)) =>
           some (.inl (v19, (v17.2.1, ((IntKind.wrap .i64 (v12.2.2.1 + 1)), ()))))))))))
    else (some (v12.1, (v12.2.1, ()))).map .inr) ([], (false, (0, ())))).bind (fun (v20 : FeedT) =>
   (
    bif (!v20.2.1) then ((appX v20.1 (a.2.1 :: []) 40)).bind (fun (v21 : (List NoteT)) =>
      some (v21, ()))
    else some (v20.1, ())).bind (fun (v22 : ((List NoteT) × Unit)) =>
    some ((v22.1, a.1.2), ([], (0, ()))))))
noncomputable def tc17 : TCn := ⟨[shFeed, shNote, (.int .i64)], [shFeed, (.slice 5 shNote), (.int .i64)], g_ref17_Come⟩
noncomputable def T17 := (17, tc17) :: T16
theorem t17 : Tbl Try.prog lbL T17 := Tbl.add t16 hn 6 17 tc17 (by kernel_rfl) (fun a => by kernel_rfl)
noncomputable def g_law17_note (a : (Int × Unit)) : Option NoteT :=
 some (a.1, (1, ((IntKind.wrap .i64 (a.1 * 3)), (0, (0, ())))))
noncomputable def tc23 : TCn := ⟨[(.int .i64)], [shNote], g_law17_note⟩
noncomputable def T23 := (23, tc23) :: T17
theorem t23 : Tbl Try.prog lbL T23 := Tbl.add t17 hn 6 23 tc23 (by kernel_rfl) (fun a => by kernel_rfl)
noncomputable def g_law17_awake (a : Unit) : Option Bool :=
 ((g_feed_Come (([], (false, ())), ((5, (1, (0, (0, (0, ()))))), (3, ()))))).bind (fun (v1 : (FeedT × ((List NoteT) × (Int × Unit)))) =>
  ((g_feed_Come (v1.1, ((4, (2, (0, (0, (0, ()))))), (3, ()))))).bind (fun (v2 : (FeedT × ((List NoteT) × (Int × Unit)))) =>
   ((g_feed_Come (v2.1, ((3, (3, (0, (0, (0, ()))))), (3, ()))))).bind (fun (v3 : (FeedT × ((List NoteT) × (Int × Unit)))) =>
    ((g_feed_Come (v3.1, ((15, (0, (0, (0, (0, ()))))), (6, ()))))).bind (fun (v4 : (FeedT × ((List NoteT) × (Int × Unit)))) =>
     (
      bif ((((((v1.2.2.1 == 0) && (v2.2.2.1 == 0)) && (v3.2.2.1 == 0)) && (v4.2.2.1 == 0)) && ((IntKind.wrap .i64 ((v1.2.1.length : Int) + (v2.2.1.length : Int))) == 0)) && ((v3.2.1.length : Int) == 3)) then ((getI v3.2.1 1)).bind (fun (v5 : NoteT) =>
        some (v5.2.1 == 2))
      else some false).bind (fun (v6 : Bool) =>
      (
       bif ((v6 && ((v3.1.1.length : Int) == 0)) && v4.1.2.1) then ((g_feed_Mend (v4.1, ()))).bind (fun (v7 : FeedT) =>
         some (!v7.2.1))
       else some false).bind (fun (v8 : Bool) =>
       (
        bif v8 then ((g_feed_Right (v3.1, (6, ())))).bind (fun (v9 : Bool) =>
          some v9)
        else some false).bind (fun (v10 : Bool) =>
        some v10)))))))
noncomputable def tc15 : TCn := ⟨[], [.bool], g_law17_awake⟩
noncomputable def T15 := (15, tc15) :: T23
theorem t15 : Tbl Try.prog lbL T15 := Tbl.add t23 hn 6 15 tc15 (by kernel_rfl) (fun a => by kernel_rfl)
noncomputable def g_law17_FeedRight (a : (FeedT × (NoteT × (Int × Unit)))) : Option Bool :=
 ((g_law17_awake ())).bind (fun (v1 : Bool) =>
  bif (!v1) then some false
  else bif (decide ((a.1.1.length : Int) > 99)) then some true
  else ((g_feed_Come a)).bind (fun (v2 : (FeedT × ((List NoteT) × (Int × Unit)))) =>
   ((g_ref17_Come a)).bind (fun (v3 : (FeedT × ((List NoteT) × (Int × Unit)))) =>
    ((g_feed_Mend (a.1, ()))).bind (fun (v4 : FeedT) =>
     ((g_feed_Right (a.1, a.2.2))).bind (fun (v5 : Bool) =>
      ((g_ref17_Right (a.1, a.2.2))).bind (fun (v6 : Bool) =>
       (
        bif ((v5 == v6) && (v2.2.2.1 == v3.2.2.1)) then ((g_ref17_Same (v2.1, (v3.1, ())))).bind (fun (v7 : Bool) =>
          some v7)
        else some false).bind (fun (v8 : Bool) =>
        (
         bif v8 then ((g_ref16_SameNotes (v2.2.1, (v3.2.1, ())))).bind (fun (v9 : Bool) =>
           some v9)
         else some false).bind (fun (v10 : Bool) =>
         (
          bif (v10 && (!v4.2.1)) then ((g_ref16_SameNotes (v4.1, (a.1.1, ())))).bind (fun (v11 : Bool) =>
            some v11)
          else some false).bind (fun (v12 : Bool) =>
          some v12)))))))))
noncomputable def tc3 : TCn := ⟨[shFeed, shNote, (.int .i64)], [.bool], g_law17_FeedRight⟩
noncomputable def T3 := (3, tc3) :: T15
theorem t3 : Tbl Try.prog lbL T3 := Tbl.add t15 hn 6 3 tc3 (by kernel_rfl) (fun a => by kernel_rfl)
noncomputable def g_law17_FeedOrders (a : ((List Int) × (Int × Unit))) : Option Bool :=
 ((g_law17_awake ())).bind (fun (v1 : Bool) =>
  bif (!v1) then some false
  else bif (decide ((a.1.length : Int) > 90)) then some true
  else (
   loopO (fun (v2 : (Int × (Int × FeedT))) =>
    bif (decide (v2.2.1 < (a.1.length : Int))) then ((getI a.1 v2.2.1)).bind (fun (v3 : Int) =>
      ((g_law17_note ((IntKind.wrap .i64 ((IntKind.wrap .i64 ((IntKind.wrap .i64 a.2.1) + 1)) + (IntKind.wrap .i64 (Int.tmod v3 64)))), ()))).bind (fun (v4 : NoteT) =>
       ((g_feed_Come (v2.2.2, (v4, (v2.1, ()))))).bind (fun (v5 : (FeedT × ((List NoteT) × (Int × Unit)))) =>
        bif (v5.2.2.1 != 0) then ((some false).map .inr).map .inr
        else (
         loopO (fun (v6 : (Int × (Int × Unit))) =>
          bif (decide (v6.2.1 < (v5.2.1.length : Int))) then ((getI v5.2.1 v6.2.1)).bind (fun (v7 : NoteT) =>
            ((g_law17_note (v6.1, ()))).bind (fun (v8 : NoteT) =>
             bif (!((v7.1 == v8.1) && ((v7.2.1 == v8.2.1) && ((v7.2.2.1 == v8.2.2.1) && ((v7.2.2.2.1 == v8.2.2.2.1) && ((v7.2.2.2.2.1 == v8.2.2.2.2.1) && true)))))) then ((((some false).map .inr).map .inr).map .inr).map .inr
             else some (.inl ((IntKind.wrap .i64 (v6.1 + 1)), ((IntKind.wrap .i64 (v6.2.1 + 1)), ())))))
          else (some (.inl (v6.1, ()))).map .inr) (v2.1, (0, ()))).bind (eX (fun (v9 : (Int × Unit)) =>
         ((g_feed_Right (v5.1, v9))).bind (fun (v10 : Bool) =>
          bif (!v10) then ((some false).map .inr).map .inr
          else some (.inl (v9.1, ((IntKind.wrap .i64 (v2.2.1 + 1)), v5.1)))))))))
    else (some (.inl v2.2.2)).map .inr) ((IntKind.wrap .i64 ((IntKind.wrap .i64 a.2.1) + 1)), (0, ([], (false, ()))))).bind (eX (fun (v11 : FeedT) =>
   some true)))
noncomputable def tc4 : TCn := ⟨[(.slice 1 (.int .u8)), (.int .u16)], [.bool], g_law17_FeedOrders⟩
noncomputable def T4 := (4, tc4) :: T3
theorem t4 : Tbl Try.prog lbL T4 := Tbl.add t3 hn 6 4 tc4 (by kernel_rfl) (fun a => by kernel_rfl)
noncomputable def g_law17_FeedAll (a : (Int × ((List Int) × ((List Int) × Unit)))) : Option Bool :=
 ((g_law17_awake ())).bind (fun (v1 : Bool) =>
  bif (!v1) then some false
  else bif ((decide ((a.2.1.length : Int) > 200)) || (decide ((a.2.2.1.length : Int) > 60))) then some true
  else (
   loopO (fun (v2 : ((List Int) × (Int × Unit))) =>
    bif (decide (v2.2.1 ≤ (Int.tmod (IntKind.wrap .i64 a.1) 61))) then ((appX v2.1 (v2.2.1 :: []) 8)).bind (fun (v3 : (List Int)) =>
      some (.inl (v3, ((IntKind.wrap .i64 (v2.2.1 + 1)), ()))))
    else (some (v2.1, ())).map .inr) ([], (1, ()))).bind (fun (v4 : ((List Int) × Unit)) =>
   (
    loopO (fun (v5 : (Int × ((List Int) × Unit))) =>
     bif ((decide (v5.1 < (a.2.1.length : Int))) && (decide ((Int.tmod (IntKind.wrap .i64 a.1) 61) > 1))) then ((getI a.2.1 v5.1)).bind (fun (v6 : Int) =>
       bif (decide ((IntKind.wrap .i64 ((Int.tmod (IntKind.wrap .i64 a.1) 61) - 1)) = 0)) then none
       else bif (inI (IntKind.wrap .i64 ((Int.tmod (IntKind.wrap .i64 v6) (IntKind.wrap .i64 ((Int.tmod (IntKind.wrap .i64 a.1) 61) - 1))) + 1)) v5.2.1.length) then (v5.2.1[(Int.toNat (IntKind.wrap .i64 ((Int.tmod (IntKind.wrap .i64 v6) (IntKind.wrap .i64 ((Int.tmod (IntKind.wrap .i64 a.1) 61) - 1))) + 1)))]?).bind (fun (v7 : Int) =>
         bif (inI (Int.tmod (IntKind.wrap .i64 v6) (IntKind.wrap .i64 ((Int.tmod (IntKind.wrap .i64 a.1) 61) - 1))) v5.2.1.length) then (v5.2.1[(Int.toNat (Int.tmod (IntKind.wrap .i64 v6) (IntKind.wrap .i64 ((Int.tmod (IntKind.wrap .i64 a.1) 61) - 1))))]?).bind (fun (v8 : Int) =>
           bif (inI (Int.tmod (IntKind.wrap .i64 v6) (IntKind.wrap .i64 ((Int.tmod (IntKind.wrap .i64 a.1) 61) - 1))) v5.2.1.length) then (v5.2.1[(Int.toNat (Int.tmod (IntKind.wrap .i64 v6) (IntKind.wrap .i64 ((Int.tmod (IntKind.wrap .i64 a.1) 61) - 1))))]?).bind (fun (v9 : Int) =>
             bif (inI (IntKind.wrap .i64 ((Int.tmod (IntKind.wrap .i64 v6) (IntKind.wrap .i64 ((Int.tmod (IntKind.wrap .i64 a.1) 61) - 1))) + 1)) (List.set v5.2.1 (Int.toNat (Int.tmod (IntKind.wrap .i64 v6) (IntKind.wrap .i64 ((Int.tmod (IntKind.wrap .i64 a.1) 61) - 1)))) v7).length) then ((List.set v5.2.1 (Int.toNat (Int.tmod (IntKind.wrap .i64 v6) (IntKind.wrap .i64 ((Int.tmod (IntKind.wrap .i64 a.1) 61) - 1)))) v7)[(Int.toNat (IntKind.wrap .i64 ((Int.tmod (IntKind.wrap .i64 v6) (IntKind.wrap .i64 ((Int.tmod (IntKind.wrap .i64 a.1) 61) - 1))) + 1)))]?).bind (fun (v10 : Int) =>
               some (.inl ((IntKind.wrap .i64 (v5.1 + 1)), ((List.set (List.set v5.2.1 (Int.toNat (Int.tmod (IntKind.wrap .i64 v6) (IntKind.wrap .i64 ((Int.tmod (IntKind.wrap .i64 a.1) 61) - 1)))) v7) (Int.toNat (IntKind.wrap .i64 ((Int.tmod (IntKind.wrap .i64 v6) (IntKind.wrap .i64 ((Int.tmod (IntKind.wrap .i64 a.1) 61) - 1))) + 1))) v8), ()))))
             else none)
           else none)
         else none)
       else none)
     else (some v5.2).map .inr) (0, v4)).bind (fun (v11 : ((List Int) × Unit)) =>
    (
     loopO (fun (v12 : ((List Int) × (Int × Unit))) =>
      bif ((decide (v12.2.1 < (a.2.2.1.length : Int))) && (decide ((Int.tmod (IntKind.wrap .i64 a.1) 61) > 0))) then ((getI a.2.2.1 v12.2.1)).bind (fun (v13 : Int) =>
        bif (decide ((Int.tmod (IntKind.wrap .i64 a.1) 61) = 0)) then none
        else bif (inI (Int.tmod (IntKind.wrap .i64 v13) (Int.tmod (IntKind.wrap .i64 a.1) 61)) v12.1.length) then (v12.1[(Int.toNat (Int.tmod (IntKind.wrap .i64 v13) (Int.tmod (IntKind.wrap .i64 a.1) 61)))]?).bind (fun (v14 : Int) =>
          ((appX v12.1 (v14 :: []) 8)).bind (fun (v15 : (List Int)) =>
           some (.inl (v15, ((IntKind.wrap .i64 (v12.2.1 + 1)), ())))))
        else none)
      else (some (v12.1, ())).map .inr) (v11.1, (0, ()))).bind (fun (v16 : ((List Int) × Unit)) =>
     (
      loopO (fun (v17 : (Int × (Int × FeedT))) =>
       bif (decide (v17.2.1 < (v16.1.length : Int))) then bif (inI v17.2.1 v16.1.length) then (v16.1[(Int.toNat v17.2.1)]?).bind (fun (v18 : Int) =>
          ((g_law17_note (v18, ()))).bind (fun (v19 : NoteT) =>
           ((g_feed_Come (v17.2.2, (v19, (v17.1, ()))))).bind (fun (v20 : (FeedT × ((List NoteT) × (Int × Unit)))) =>
            bif (v20.2.2.1 != 0) then ((some false).map .inr).map .inr
            else some (.inl ((IntKind.wrap .i64 (v17.1 + (v20.2.1.length : Int))), ((IntKind.wrap .i64 (v17.2.1 + 1)), v20.1))))))
        else none
       else (some (.inl (v17.1, v17.2.2))).map .inr) (1, (0, ([], (false, ()))))).bind (eX (fun (v21 : (Int × FeedT)) =>
      some (v21.2.2.1 || ((v21.1 == (IntKind.wrap .i64 ((Int.tmod (IntKind.wrap .i64 a.1) 61) + 1))) && ((v21.2.1.length : Int) == 0)))))))))
noncomputable def tc5 : TCn := ⟨[(.int .u8), (.slice 1 (.int .u8)), (.slice 1 (.int .u8))], [.bool], g_law17_FeedAll⟩
noncomputable def T5 := (5, tc5) :: T4
theorem t5 : Tbl Try.prog lbL T5 := Tbl.add t4 hn 6 5 tc5 (by kernel_rfl) (fun a => by kernel_rfl)
end Go.AI
