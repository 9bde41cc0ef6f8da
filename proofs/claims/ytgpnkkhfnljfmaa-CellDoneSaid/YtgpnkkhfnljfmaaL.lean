/- What Go functions come to, as functions of data with a kind; printed by a program, with the proof that the given functions answer just that. -/
import Derived.Test.YtgpnkkhfnljfmaaLE
import Derived.Test.YtgpnkkhfnljfmaaProg
namespace Go.AI
open Go.Proofs
set_option linter.unusedVariables false
abbrev ExpoT := (Int × (Int × (Int × Unit)))
abbrev shExpo : Sh := (.cons (.int .i64) (.cons (.int .i64) (.cons (.int .i64) .nil)))
abbrev CellT := (Int × ExpoT)
abbrev shCell : Sh := (.cons (.int .i64) shExpo)
abbrev NoteT := (Int × CellT)
abbrev shNote : Sh := (.cons (.int .i64) shCell)
abbrev OrderT := (Int × (Int × (Int × (Int × (Int × (Int × (Int × (Int × (Int × (Int × (Int × (Bool × Unit))))))))))))
abbrev shOrder : Sh := (.cons (.int .i64) (.cons (.int .i64) (.cons (.int .i64) (.cons (.int .i64) (.cons (.int .i64) (.cons (.int .i64) (.cons (.int .i64) (.cons (.int .i64) (.cons (.int .i64) (.cons (.int .i64) (.cons (.int .i64) (.cons .bool .nil))))))))))))
abbrev RecT := (Int × (Int × (Int × (Int × (Int × (Int × (Int × (Int × (Int × (Int × (Bool × (Int × (Int × Unit)))))))))))))
abbrev shRec : Sh := (.cons (.int .i64) (.cons (.int .i64) (.cons (.int .i64) (.cons (.int .i64) (.cons (.int .i64) (.cons (.int .i64) (.cons (.int .i64) (.cons (.int .i64) (.cons (.int .i64) (.cons (.int .i64) (.cons .bool (.cons (.int .i64) (.cons (.int .i64) .nil)))))))))))))
def hnL : List (Nat × List (Nat × Hint)) := [(75, [(0, .j [⟨.b 3 [], [.v (.int .i64), .v (.int .i64), .v (.int .i64), .v (.int .i64), .v (.int .i64), .v (.int .i64), .v (.int .i64), .v (.int .i64), .v (.int .i64), .v (.int .i64), .v .bool, .v (.int .i64), .v (.int .i64)]⟩]), (4, .j [⟨.b 3 [], [.v (.int .i64), .v (.int .i64), .v (.int .i64), .v (.int .i64), .v (.int .i64), .v (.int .i64), .v (.int .i64), .v (.int .i64), .v (.int .i64), .v (.int .i64), .v .bool, .v (.int .i64), .v (.int .i64)]⟩]), (5, .j [⟨.b 3 [], [.v (.int .i64), .v (.int .i64), .v (.int .i64), .v (.int .i64), .v (.int .i64), .v (.int .i64), .v (.int .i64), .v (.int .i64), .v (.int .i64), .v (.int .i64), .v .bool, .v (.int .i64), .v (.int .i64)]⟩])]),
 (79, [(4, .j [⟨.t 33, [.v .bool]⟩]), (5, .j [⟨.t 33, [.v .bool]⟩]), (6, .j [⟨.t 33, [.v .bool]⟩])]),
 (33, [(1, .j [⟨.t 9, [.v (.int .i64)]⟩, ⟨.b 8 [], [.v (.int .i64), .v (.int .i64), .v (.int .i64), .v (.int .i64)]⟩])]),
 (69, [(1, .j [⟨.t 4, [.v .bool]⟩, ⟨.b 3 [], [.v (.int .i64), .v (.int .i64), .v (.int .i64), .v (.int .i64), .v (.int .i64), .v (.int .i64), .v (.int .i64), .v (.int .i64), .v (.int .i64), .v (.int .i64), .v .bool, .v (.int .i64), .v (.int .i64)]⟩]), (2, .j [⟨.t 4, [.v .bool]⟩, ⟨.b 3 [], [.v (.int .i64), .v (.int .i64), .v (.int .i64), .v (.int .i64), .v (.int .i64), .v (.int .i64), .v (.int .i64), .v (.int .i64), .v (.int .i64), .v (.int .i64), .v .bool, .v (.int .i64), .v (.int .i64)]⟩]), (3, .j [⟨.t 4, [.v .bool]⟩, ⟨.b 3 [], [.v (.int .i64), .v (.int .i64), .v (.int .i64), .v (.int .i64), .v (.int .i64), .v (.int .i64), .v (.int .i64), .v (.int .i64), .v (.int .i64), .v (.int .i64), .v .bool, .v (.int .i64), .v (.int .i64)]⟩]), (4, .j [⟨.t 4, [.v .bool]⟩, ⟨.b 3 [], [.v (.int .i64), .v (.int .i64), .v (.int .i64), .v (.int .i64), .v (.int .i64), .v (.int .i64), .v (.int .i64), .v (.int .i64), .v (.int .i64), .v (.int .i64), .v .bool, .v (.int .i64), .v (.int .i64)]⟩]), (5, .j [⟨.t 4, [.v .bool]⟩]), (6, .j [⟨.t 4, [.v .bool]⟩, ⟨.b 3 [], [.v (.int .i64), .v (.int .i64), .v (.int .i64), .v (.int .i64), .v (.int .i64), .v (.int .i64), .v (.int .i64), .v (.int .i64), .v (.int .i64), .v (.int .i64), .v .bool, .v (.int .i64), .v (.int .i64)]⟩]), (7, .j [⟨.t 4, [.v .bool]⟩, ⟨.b 3 [], [.v (.int .i64), .v (.int .i64), .v (.int .i64), .v (.int .i64), .v (.int .i64), .v (.int .i64), .v (.int .i64), .v (.int .i64), .v (.int .i64), .v (.int .i64), .v .bool, .v (.int .i64), .v (.int .i64)]⟩]), (8, .j [⟨.t 4, [.v .bool]⟩, ⟨.b 3 [], [.v (.int .i64), .v (.int .i64), .v (.int .i64), .v (.int .i64), .v (.int .i64), .v (.int .i64), .v (.int .i64), .v (.int .i64), .v (.int .i64), .v (.int .i64), .v .bool, .v (.int .i64), .v (.int .i64)]⟩]), (9, .j [⟨.t 4, [.v .bool]⟩, ⟨.b 3 [], [.v (.int .i64), .v (.int .i64), .v (.int .i64), .v (.int .i64), .v (.int .i64), .v (.int .i64), .v (.int .i64), .v (.int .i64), .v (.int .i64), .v (.int .i64), .v .bool, .v (.int .i64), .v (.int .i64)]⟩])]),
 (50, [(3, .j [])]),
 (51, [(1, .j [⟨.t 3, [.v (.int .i64)]⟩])]),
 (62, [(2, .j [⟨.t 12, [.v .bool]⟩, ⟨.b 10 [], [.v (.int .i64), .v (.int .i64), .v (.int .i64), .v (.int .i64)]⟩])]),
 (68, [(0, .j [⟨.b 2 [], [.v (.int .i64), .v (.int .i64), .v (.int .i64), .v (.int .i64), .v (.int .i64), .v (.int .i64), .v (.int .i64), .v (.int .i64), .v (.int .i64), .v (.int .i64), .v (.int .i64), .v .bool]⟩, ⟨.b 4 [], [.v (.int .i64), .v (.int .i64), .v (.int .i64), .v (.int .i64), .v (.int .i64), .v (.int .i64), .v (.int .i64), .v (.int .i64), .v (.int .i64), .v (.int .i64), .v (.int .i64), .v .bool]⟩]), (3, .j [⟨.b 2 [], [.v (.int .i64), .v (.int .i64), .v (.int .i64), .v (.int .i64), .v (.int .i64), .v (.int .i64), .v (.int .i64), .v (.int .i64), .v (.int .i64), .v (.int .i64), .v (.int .i64), .v .bool]⟩, ⟨.b 4 [], [.v (.int .i64), .v (.int .i64), .v (.int .i64), .v (.int .i64), .v (.int .i64), .v (.int .i64), .v (.int .i64), .v (.int .i64), .v (.int .i64), .v (.int .i64), .v (.int .i64), .v .bool]⟩])]),
 (38, [(2, .j [⟨.t 7, [.v .bool]⟩, ⟨.b 2 [], [.v (.int .i64), .v (.int .i64), .v (.int .i64), .v (.int .i64), .v (.int .i64), .v (.int .i64), .v (.int .i64), .v (.int .i64), .v (.int .i64), .v (.int .i64), .v (.int .i64), .v .bool]⟩]), (3, .j [⟨.t 7, [.v .bool]⟩, ⟨.b 2 [], [.v (.int .i64), .v (.int .i64), .v (.int .i64), .v (.int .i64), .v (.int .i64), .v (.int .i64), .v (.int .i64), .v (.int .i64), .v (.int .i64), .v (.int .i64), .v (.int .i64), .v .bool]⟩])]),
 (9, [(4, .j [⟨.t 18, [.v (.int .i64)]⟩, ⟨.t 20, [.v (.int .i64)]⟩, ⟨.b 17 [], [.v (.int .i64), .v (.int .i64), .v (.int .i64), .v (.int .i64)]⟩, ⟨.b 19 [], [.v (.int .i64), .v (.int .i64), .v (.int .i64), .v (.int .i64)]⟩])])]
def hnOf : List (Nat × List (Nat × Hint)) → Nat → List (Nat × Hint)
  | [], _ => []
  | (k, x) :: l, f => match Nat.beq k f with
    | true => x
    | false => hnOf l f
def hn : FuncId → List (Nat × Hint) := fun f => hnOf hnL f
noncomputable def g_num_Add (a : (Int × (Int × Unit))) : Option (Int × (Int × Unit)) :=
 bif (((decide ((IntKind.wrap .i64 (a.1 + a.2.1)) > a.1)) != (decide (a.2.1 > 0))) && (a.2.1 != 0)) then some (0, (3, ()))
 else some ((IntKind.wrap .i64 (a.1 + a.2.1)), (0, ()))
noncomputable def tc61 : TCn := ⟨[(.int .i64), (.int .i64)], [(.int .i64), (.int .i64)], g_num_Add⟩
noncomputable def T61 := (61, tc61) :: ([] : List (FuncId × TCn))
theorem t61 : Tbl Try.prog T61 := Tbl.add .nil hn 6 61 tc61 (by kernel_rfl) (fun a => by kernel_rfl)
noncomputable def g_num_Sub (a : (Int × (Int × Unit))) : Option (Int × (Int × Unit)) :=
 bif (((decide ((IntKind.wrap .i64 (a.1 - a.2.1)) < a.1)) != (decide (a.2.1 > 0))) && (a.2.1 != 0)) then some (0, (3, ()))
 else some ((IntKind.wrap .i64 (a.1 - a.2.1)), (0, ()))
noncomputable def tc63 : TCn := ⟨[(.int .i64), (.int .i64)], [(.int .i64), (.int .i64)], g_num_Sub⟩
noncomputable def T63 := (63, tc63) :: T61
theorem t63 : Tbl Try.prog T63 := Tbl.add t61 hn 6 63 tc63 (by kernel_rfl) (fun a => by kernel_rfl)
noncomputable def g_cell_expo (a : (CellT × Unit)) : Option (ExpoT × (Bool × Unit)) :=
 ((g_num_Add (a.1.1, (a.1.2.1, ())))).bind (fun (v1 : (Int × (Int × Unit))) =>
  ((g_num_Sub (a.1.2.2.1, (a.1.1, ())))).bind (fun (v2 : (Int × (Int × Unit))) =>
   some ((v1.1, (v2.1, a.1.2.2.2)), (((v1.2.1 == 0) && (v2.2.1 == 0)), ()))))
noncomputable def tc59 : TCn := ⟨[shCell], [shExpo, .bool], g_cell_expo⟩
noncomputable def T59 := (59, tc59) :: T63
theorem t59 : Tbl Try.prog T59 := Tbl.add t63 hn 6 59 tc59 (by kernel_rfl) (fun a => by kernel_rfl)
noncomputable def g_cell_Right (a : (CellT × Unit)) : Option Bool :=
 ((g_cell_expo a)).bind (fun (v1 : (ExpoT × (Bool × Unit))) =>
  some (v1.2.1 && (decide ((if (false = true) then (if (a.1.2.2.2.1 > (if (false = true) then (if (a.1.2.2.1 > a.1.2.1) then a.1.2.2.1 else a.1.2.1) else (if (a.1.2.2.1 < a.1.2.1) then a.1.2.2.1 else a.1.2.1))) then a.1.2.2.2.1 else (if (false = true) then (if (a.1.2.2.1 > a.1.2.1) then a.1.2.2.1 else a.1.2.1) else (if (a.1.2.2.1 < a.1.2.1) then a.1.2.2.1 else a.1.2.1))) else (if (a.1.2.2.2.1 < (if (false = true) then (if (a.1.2.2.1 > a.1.2.1) then a.1.2.2.1 else a.1.2.1) else (if (a.1.2.2.1 < a.1.2.1) then a.1.2.2.1 else a.1.2.1))) then a.1.2.2.2.1 else (if (false = true) then (if (a.1.2.2.1 > a.1.2.1) then a.1.2.2.1 else a.1.2.1) else (if (a.1.2.2.1 < a.1.2.1) then a.1.2.2.1 else a.1.2.1)))) ≥ 0))))
noncomputable def tc27 : TCn := ⟨[shCell], [.bool], g_cell_Right⟩
noncomputable def T27 := (27, tc27) :: T59
theorem t27 : Tbl Try.prog T27 := Tbl.add t59 hn 6 27 tc27 (by kernel_rfl) (fun a => by kernel_rfl)
noncomputable def g_order_pending (a : (OrderT × Unit)) : Option Bool :=
 some ((a.1.2.2.2.2.2.2.2.2.1 != 0) || (a.1.2.2.2.2.2.2.2.2.2.1 != 0))
noncomputable def tc70 : TCn := ⟨[shOrder], [.bool], g_order_pending⟩
noncomputable def T70 := (70, tc70) :: T27
theorem t70 : Tbl Try.prog T70 := Tbl.add t27 hn 6 70 tc70 (by kernel_rfl) (fun a => by kernel_rfl)
noncomputable def g_rec_fields (a : (RecT × Unit)) : Option RecT :=
 (
  (
   (
    bif (a.1.1 == 1) then some (.inl (a.1.1, (0, (a.1.2.2.1, (a.1.2.2.2.1, (a.1.2.2.2.2.1, (0, (0, (0, (0, (0, (false, (0, (0, ()))))))))))))))
    else bif (a.1.1 == 2) then some (.inl (a.1.1, (0, (0, (0, (0, (0, (0, (0, (0, (0, (false, (0, (0, ()))))))))))))))
    else bif (a.1.1 == 3) then (some (.inl (a.1.1, (0, (0, (0, (0, (0, (0, (0, (0, (0, (false, (0, (0, ()))))))))))))))).map .inr
    else bif (a.1.1 == 4) then ((some (a.1.1, (0, (a.1.2.2.1, (a.1.2.2.2.1, (0, (0, (0, (a.1.2.2.2.2.2.2.2.1, (a.1.2.2.2.2.2.2.2.2.1, (a.1.2.2.2.2.2.2.2.2.2.1, (false, (0, (0, ())))))))))))))).map .inr).map .inr
    else bif (a.1.1 == 5) then ((some (a.1.1, (0, (0, (0, (0, (0, (0, (0, (0, (0, (a.1.2.2.2.2.2.2.2.2.2.2.1, (0, (0, ())))))))))))))).map .inr).map .inr
    else bif (a.1.1 == 6) then ((some (a.1.1, (a.1.2.1, (0, (0, (0, (a.1.2.2.2.2.2.1, (a.1.2.2.2.2.2.2.1, (0, (0, (0, (false, a.1.2.2.2.2.2.2.2.2.2.2.2)))))))))))).map .inr).map .inr
    else ((some (a.1.1, (0, (0, (0, (0, (0, (0, (0, (0, (0, (false, (0, (0, ())))))))))))))).map .inr).map .inr).bind (eX (fun (v1 : RecT) =>
    some (.inl (v1.1, (v1.2.1, (v1.2.2.1, (v1.2.2.2.1, (v1.2.2.2.2.1, (a.1.2.2.2.2.2.1, (a.1.2.2.2.2.2.2.1, v1.2.2.2.2.2.2.2))))))))))).bind (eX (fun (v2 : RecT) =>
   some (v2.1, (a.1.2.1, v2.2.2))))).bind (fun (v3 : RecT) =>
  some v3)
noncomputable def tc75 : TCn := ⟨[shRec], [shRec], g_rec_fields⟩
noncomputable def T75 := (75, tc75) :: T70
theorem t75 : Tbl Try.prog T75 := Tbl.add t70 hn 6 75 tc75 (by kernel_rfl) (fun a => by kernel_rfl)
noncomputable def g_rec_known (a : (Int × Unit)) : Option Bool :=
 some ((decide (a.1 ≥ 1)) && (decide (a.1 ≤ 1000000000000)))
noncomputable def tc76 : TCn := ⟨[(.int .i64)], [.bool], g_rec_known⟩
noncomputable def T76 := (76, tc76) :: T75
theorem t76 : Tbl Try.prog T76 := Tbl.add t75 hn 6 76 tc76 (by kernel_rfl) (fun a => by kernel_rfl)
noncomputable def g_rec_below (a : (Int × (Int × Unit))) : Option Bool :=
 some ((decide (a.1 ≥ 0)) && (decide (a.1 < a.2.1)))
noncomputable def tc77 : TCn := ⟨[(.int .i64), (.int .i64)], [.bool], g_rec_below⟩
noncomputable def T77 := (77, tc77) :: T76
theorem t77 : Tbl Try.prog T77 := Tbl.add t76 hn 6 77 tc77 (by kernel_rfl) (fun a => by kernel_rfl)
noncomputable def g_rec_sized (a : (RecT × Unit)) : Option Bool :=
 some ((decide (a.1.2.2.2.2.2.1 ≥ 1)) && (decide (a.1.2.2.2.2.2.2.1 ≥ 1)))
noncomputable def tc78 : TCn := ⟨[shRec], [.bool], g_rec_sized⟩
noncomputable def T78 := (78, tc78) :: T77
theorem t78 : Tbl Try.prog T78 := Tbl.add t77 hn 6 78 tc78 (by kernel_rfl) (fun a => by kernel_rfl)
noncomputable def g_rec_event (a : (RecT × Unit)) : Option Bool :=
 (
  bif ((decide (a.1.2.2.2.2.2.2.2.2.2.2.2.1 < 1)) || (decide (a.1.2.2.2.2.2.2.2.2.2.2.2.1 > 1000000000))) then some true
  else ((g_rec_known (a.1.2.1, ()))).bind (fun (v1 : Bool) =>
   some (!v1))).bind (fun (v2 : Bool) =>
  bif v2 then some false
  else bif (a.1.2.2.2.2.2.2.2.2.2.2.2.2.1 == 3) then some ((decide (a.1.2.2.2.2.2.1 ≥ 1)) && (a.1.2.2.2.2.2.2.1 == 0))
  else bif (a.1.2.2.2.2.2.2.2.2.2.2.2.2.1 == 5) then ((g_rec_sized a)).bind (fun (v3 : Bool) =>
    some v3)
  else (
   bif (a.1.2.2.2.2.2.2.2.2.2.2.2.2.1 == 1) then some ((a.1.2.2.2.2.2.2.2.2.2.2.2.2.1 == 1), ())
   else (
    bif (a.1.2.2.2.2.2.2.2.2.2.2.2.2.1 == 2) then some ((a.1.2.2.2.2.2.2.2.2.2.2.2.2.1 == 2), ())
    else (
     bif (a.1.2.2.2.2.2.2.2.2.2.2.2.2.1 == 4) then some ((a.1.2.2.2.2.2.2.2.2.2.2.2.2.1 == 4), ())
     else some ((a.1.2.2.2.2.2.2.2.2.2.2.2.2.1 == 6), ())).bind (fun (v4 : (Bool × Unit)) =>
     some v4)).bind (fun (v5 : (Bool × Unit)) =>
    some v5)).bind (fun (v6 : (Bool × Unit)) =>
   bif v6.1 then some ((a.1.2.2.2.2.2.1 == 0) && (a.1.2.2.2.2.2.2.1 == 0))
   else some false))
noncomputable def tc79 : TCn := ⟨[shRec], [.bool], g_rec_event⟩
noncomputable def T79 := (79, tc79) :: T78
theorem t79 : Tbl Try.prog T79 := Tbl.add t78 hn 6 79 tc79 (by kernel_rfl) (fun a => by kernel_rfl)
noncomputable def g_rec_Right (a : (RecT × Unit)) : Option Bool :=
 ((g_rec_fields a)).bind (fun (v1 : RecT) =>
  bif (!((a.1.1 == v1.1) && ((a.1.2.1 == v1.2.1) && ((a.1.2.2.1 == v1.2.2.1) && ((a.1.2.2.2.1 == v1.2.2.2.1) && ((a.1.2.2.2.2.1 == v1.2.2.2.2.1) && ((a.1.2.2.2.2.2.1 == v1.2.2.2.2.2.1) && ((a.1.2.2.2.2.2.2.1 == v1.2.2.2.2.2.2.1) && ((a.1.2.2.2.2.2.2.2.1 == v1.2.2.2.2.2.2.2.1) && ((a.1.2.2.2.2.2.2.2.2.1 == v1.2.2.2.2.2.2.2.2.1) && ((a.1.2.2.2.2.2.2.2.2.2.1 == v1.2.2.2.2.2.2.2.2.2.1) && ((a.1.2.2.2.2.2.2.2.2.2.2.1 == v1.2.2.2.2.2.2.2.2.2.2.1) && ((a.1.2.2.2.2.2.2.2.2.2.2.2.1 == v1.2.2.2.2.2.2.2.2.2.2.2.1) && ((a.1.2.2.2.2.2.2.2.2.2.2.2.2.1 == v1.2.2.2.2.2.2.2.2.2.2.2.2.1) && true)))))))))))))) then some false
  else bif (a.1.1 == 1) then ((g_rec_known (a.1.2.1, ()))).bind (fun (v2 : Bool) =>
    (
     bif v2 then ((g_rec_below (a.1.2.2.1, (8, ())))).bind (fun (v3 : Bool) =>
       some v3)
     else some false).bind (fun (v4 : Bool) =>
     (
      bif v4 then ((g_rec_below (a.1.2.2.2.1, (8, ())))).bind (fun (v5 : Bool) =>
        some v5)
      else some false).bind (fun (v6 : Bool) =>
      (
       bif (v6 && ((a.1.2.2.2.2.1 == 1) || (a.1.2.2.2.2.1 == 2))) then ((g_rec_sized a)).bind (fun (v7 : Bool) =>
         some v7)
       else some false).bind (fun (v8 : Bool) =>
       some v8))))
  else bif (a.1.1 == 2) then ((g_rec_known (a.1.2.1, ()))).bind (fun (v9 : Bool) =>
    (
     bif v9 then ((g_rec_sized a)).bind (fun (v10 : Bool) =>
       some v10)
     else some false).bind (fun (v11 : Bool) =>
     some v11))
  else bif (a.1.1 == 3) then ((g_rec_known (a.1.2.1, ()))).bind (fun (v12 : Bool) =>
    some v12)
  else bif (a.1.1 == 4) then ((g_rec_below (a.1.2.2.1, (8, ())))).bind (fun (v13 : Bool) =>
    (
     bif v13 then (
       bif (((a.1.2.2.2.1 == (-1)) && (a.1.2.2.2.2.2.2.2.1 == 0)) && (a.1.2.2.2.2.2.2.2.2.1 == 0)) then some true
       else ((g_rec_below (a.1.2.2.2.1, (8, ())))).bind (fun (v14 : Bool) =>
        some v14)).bind (fun (v15 : Bool) =>
       some v15)
     else some false).bind (fun (v16 : Bool) =>
     some (v16 && (decide ((if (false = true) then (if (a.1.2.2.2.2.2.2.2.2.2.1 > (if (false = true) then (if (a.1.2.2.2.2.2.2.2.2.1 > a.1.2.2.2.2.2.2.2.1) then a.1.2.2.2.2.2.2.2.2.1 else a.1.2.2.2.2.2.2.2.1) else (if (a.1.2.2.2.2.2.2.2.2.1 < a.1.2.2.2.2.2.2.2.1) then a.1.2.2.2.2.2.2.2.2.1 else a.1.2.2.2.2.2.2.2.1))) then a.1.2.2.2.2.2.2.2.2.2.1 else (if (false = true) then (if (a.1.2.2.2.2.2.2.2.2.1 > a.1.2.2.2.2.2.2.2.1) then a.1.2.2.2.2.2.2.2.2.1 else a.1.2.2.2.2.2.2.2.1) else (if (a.1.2.2.2.2.2.2.2.2.1 < a.1.2.2.2.2.2.2.2.1) then a.1.2.2.2.2.2.2.2.2.1 else a.1.2.2.2.2.2.2.2.1))) else (if (a.1.2.2.2.2.2.2.2.2.2.1 < (if (false = true) then (if (a.1.2.2.2.2.2.2.2.2.1 > a.1.2.2.2.2.2.2.2.1) then a.1.2.2.2.2.2.2.2.2.1 else a.1.2.2.2.2.2.2.2.1) else (if (a.1.2.2.2.2.2.2.2.2.1 < a.1.2.2.2.2.2.2.2.1) then a.1.2.2.2.2.2.2.2.2.1 else a.1.2.2.2.2.2.2.2.1))) then a.1.2.2.2.2.2.2.2.2.2.1 else (if (false = true) then (if (a.1.2.2.2.2.2.2.2.2.1 > a.1.2.2.2.2.2.2.2.1) then a.1.2.2.2.2.2.2.2.2.1 else a.1.2.2.2.2.2.2.2.1) else (if (a.1.2.2.2.2.2.2.2.2.1 < a.1.2.2.2.2.2.2.2.1) then a.1.2.2.2.2.2.2.2.2.1 else a.1.2.2.2.2.2.2.2.1)))) ≥ 0)))))
  else bif (a.1.1 == 5) then some true
  else bif (a.1.1 == 6) then ((g_rec_event a)).bind (fun (v17 : Bool) =>
    some v17)
  else some false)
noncomputable def tc52 : TCn := ⟨[shRec], [.bool], g_rec_Right⟩
noncomputable def T52 := (52, tc52) :: T79
theorem t52 : Tbl Try.prog T52 := Tbl.add t79 hn 6 52 tc52 (by kernel_rfl) (fun a => by kernel_rfl)
noncomputable def g_order_begun (a : (OrderT × Unit)) : Option Bool :=
 ((g_rec_Right ((1, (a.1.1, (a.1.2.1, (a.1.2.2.1, (a.1.2.2.2.1, (a.1.2.2.2.2.1, (a.1.2.2.2.2.2.1, (0, (0, (0, (false, (0, (0, ()))))))))))))), ()))).bind (fun (v1 : Bool) =>
  some v1)
noncomputable def tc71 : TCn := ⟨[shOrder], [.bool], g_order_begun⟩
noncomputable def T71 := (71, tc71) :: T52
theorem t71 : Tbl Try.prog T71 := Tbl.add t52 hn 6 71 tc71 (by kernel_rfl) (fun a => by kernel_rfl)
noncomputable def g_order_Right (a : (OrderT × Unit)) : Option Bool :=
 ((g_order_pending a)).bind (fun (v1 : Bool) =>
  ((g_order_begun a)).bind (fun (v2 : Bool) =>
   bif (((((!v2) || (decide (a.1.2.2.2.2.2.2.1 < 0))) || (decide (a.1.2.2.2.2.2.2.1 > a.1.2.2.2.2.1))) || (decide (a.1.2.2.2.2.2.2.2.2.2.2.1 < 0))) || (v1 && (decide ((if (false = true) then (if (a.1.2.2.2.2.2.2.2.2.2.1 > a.1.2.2.2.2.2.2.2.2.1) then a.1.2.2.2.2.2.2.2.2.2.1 else a.1.2.2.2.2.2.2.2.2.1) else (if (a.1.2.2.2.2.2.2.2.2.2.1 < a.1.2.2.2.2.2.2.2.2.1) then a.1.2.2.2.2.2.2.2.2.2.1 else a.1.2.2.2.2.2.2.2.2.1)) < 1)))) then some false
   else bif (a.1.2.2.2.2.2.2.2.1 == 1) then some (((a.1.2.2.2.2.2.2.1 == 0) && (a.1.2.2.2.2.2.2.2.2.2.2.1 == 0)) && (!v1))
   else bif (a.1.2.2.2.2.2.2.2.1 == 2) then some (decide (a.1.2.2.2.2.2.2.1 < a.1.2.2.2.2.1))
   else bif (a.1.2.2.2.2.2.2.2.1 == 3) then some (!v1)
   else some false))
noncomputable def tc42 : TCn := ⟨[shOrder], [.bool], g_order_Right⟩
noncomputable def T42 := (42, tc42) :: T71
theorem t42 : Tbl Try.prog T42 := Tbl.add t71 hn 6 42 tc42 (by kernel_rfl) (fun a => by kernel_rfl)
noncomputable def g_num_size (a : (Int × Unit)) : Option Int :=
 bif (decide (a.1 < 0)) then some (IntKind.wrap .u64 (0 - (IntKind.wrap .u64 a.1)))
 else some (IntKind.wrap .u64 a.1)
noncomputable def tc88 : TCn := ⟨[(.int .i64)], [(.int .u64)], g_num_size⟩
noncomputable def T88 := (88, tc88) :: T42
theorem t88 : Tbl Try.prog T88 := Tbl.add t42 hn 6 88 tc88 (by kernel_rfl) (fun a => by kernel_rfl)
noncomputable def g_math_bits_Mul64 (a : (Int × (Int × Unit))) : Option (Int × (Int × Unit)) :=
 some ((IntKind.wrap .u64 ((IntKind.wrap .u64 ((IntKind.wrap .u64 ((Int.fdiv a.1 (2 ^ 32)) * (Int.fdiv a.2.1 (2 ^ 32)))) + (Int.fdiv (IntKind.wrap .u64 ((IntKind.wrap .u64 ((Int.fdiv a.1 (2 ^ 32)) * (Go.bits Go.BinOp.and Go.IntKind.u64 a.2.1 4294967295))) + (Int.fdiv (IntKind.wrap .u64 ((Go.bits Go.BinOp.and Go.IntKind.u64 a.1 4294967295) * (Go.bits Go.BinOp.and Go.IntKind.u64 a.2.1 4294967295))) (2 ^ 32)))) (2 ^ 32)))) + (Int.fdiv (IntKind.wrap .u64 ((Go.bits Go.BinOp.and Go.IntKind.u64 (IntKind.wrap .u64 ((IntKind.wrap .u64 ((Int.fdiv a.1 (2 ^ 32)) * (Go.bits Go.BinOp.and Go.IntKind.u64 a.2.1 4294967295))) + (Int.fdiv (IntKind.wrap .u64 ((Go.bits Go.BinOp.and Go.IntKind.u64 a.1 4294967295) * (Go.bits Go.BinOp.and Go.IntKind.u64 a.2.1 4294967295))) (2 ^ 32)))) 4294967295) + (IntKind.wrap .u64 ((Go.bits Go.BinOp.and Go.IntKind.u64 a.1 4294967295) * (Int.fdiv a.2.1 (2 ^ 32)))))) (2 ^ 32)))), ((IntKind.wrap .u64 (a.1 * a.2.1)), ()))
noncomputable def tc87 : TCn := ⟨[(.int .u64), (.int .u64)], [(.int .u64), (.int .u64)], g_math_bits_Mul64⟩
noncomputable def T87 := (87, tc87) :: T88
theorem t87 : Tbl Try.prog T87 := Tbl.add t88 hn 6 87 tc87 (by kernel_rfl) (fun a => by kernel_rfl)
noncomputable def g_num_Mul (a : (Int × (Int × Unit))) : Option (Int × (Int × Unit)) :=
 ((g_num_size (a.1, ()))).bind (fun (v1 : Int) =>
  ((g_num_size a.2)).bind (fun (v2 : Int) =>
   ((g_math_bits_Mul64 (v1, (v2, ())))).bind (fun (v3 : (Int × (Int × Unit))) =>
    bif (((v3.1 == 0) && ((decide (a.1 < 0)) != (decide (a.2.1 < 0)))) && (decide (v3.2.1 ≤ 9223372036854775808))) then some ((IntKind.wrap .i64 (IntKind.wrap .u64 (0 - v3.2.1))), (0, ()))
    else bif ((v3.1 == 0) && (decide (v3.2.1 ≤ 9223372036854775807))) then some ((IntKind.wrap .i64 v3.2.1), (0, ()))
    else some (0, (3, ())))))
noncomputable def tc73 : TCn := ⟨[(.int .i64), (.int .i64)], [(.int .i64), (.int .i64)], g_num_Mul⟩
noncomputable def T73 := (73, tc73) :: T87
theorem t73 : Tbl Try.prog T73 := Tbl.add t87 hn 6 73 tc73 (by kernel_rfl) (fun a => by kernel_rfl)
noncomputable def g_num_Max (a : (Int × (Int × Unit))) : Option Int :=
 some (if (true = true) then (if (a.2.1 > a.1) then a.2.1 else a.1) else (if (a.2.1 < a.1) then a.2.1 else a.1))
noncomputable def tc65 : TCn := ⟨[(.int .i64), (.int .i64)], [(.int .i64)], g_num_Max⟩
noncomputable def T65 := (65, tc65) :: T73
theorem t65 : Tbl Try.prog T65 := Tbl.add t73 hn 6 65 tc65 (by kernel_rfl) (fun a => by kernel_rfl)
noncomputable def g_order_Worth (a : (OrderT × Unit)) : Option (Int × (Int × Unit)) :=
 ((g_order_Right a)).bind (fun (v1 : Bool) =>
  bif (!v1) then some (0, (1, ()))
  else bif (a.1.2.2.2.2.2.2.2.1 == 3) then some (0, (0, ()))
  else ((g_num_Mul ((IntKind.wrap .i64 (a.1.2.2.2.2.1 - a.1.2.2.2.2.2.2.1)), (a.1.2.2.2.2.2.1, ())))).bind (fun (v2 : (Int × (Int × Unit))) =>
   bif ((v2.2.1 != 0) || (decide (a.1.2.2.2.2.2.2.2.2.1 ≤ a.1.2.2.2.2.2.2.1))) then some v2
   else ((g_num_Mul ((IntKind.wrap .i64 (a.1.2.2.2.2.2.2.2.2.1 - a.1.2.2.2.2.2.2.1)), (a.1.2.2.2.2.2.2.2.2.2.1, ())))).bind (fun (v3 : (Int × (Int × Unit))) =>
    bif (v3.2.1 != 0) then some (0, v3.2)
    else ((g_num_Max (v2.1, (v3.1, ())))).bind (fun (v4 : Int) =>
     some (v4, (0, ()))))))
noncomputable def tc49 : TCn := ⟨[shOrder], [(.int .i64), (.int .i64)], g_order_Worth⟩
noncomputable def T49 := (49, tc49) :: T65
theorem t49 : Tbl Try.prog T49 := Tbl.add t65 hn 6 49 tc49 (by kernel_rfl) (fun a => by kernel_rfl)
noncomputable def g_order_Open (a : (OrderT × Unit)) : Option Int :=
 ((g_order_Right a)).bind (fun (v1 : Bool) =>
  bif ((!v1) || (a.1.2.2.2.2.2.2.2.1 == 3)) then some 0
  else ((g_num_Max (a.1.2.2.2.2.1, (a.1.2.2.2.2.2.2.2.2.1, ())))).bind (fun (v2 : Int) =>
   some (IntKind.wrap .i64 (v2 - a.1.2.2.2.2.2.2.1))))
noncomputable def tc37 : TCn := ⟨[shOrder], [(.int .i64)], g_order_Open⟩
noncomputable def T37 := (37, tc37) :: T49
theorem t37 : Tbl Try.prog T37 := Tbl.add t49 hn 6 37 tc37 (by kernel_rfl) (fun a => by kernel_rfl)
noncomputable def g_cell_Come (a : (CellT × (OrderT × Unit))) : Option (CellT × (Int × Unit)) :=
 ((g_cell_Right (a.1, ()))).bind (fun (v1 : Bool) =>
  (
   bif (!v1) then some true
   else ((g_order_Right a.2)).bind (fun (v2 : Bool) =>
    some (!v2))).bind (fun (v3 : Bool) =>
   bif v3 then some (a.1, (1, ()))
   else ((g_order_Worth a.2)).bind (fun (v4 : (Int × (Int × Unit))) =>
    bif (a.2.1.2.2.2.1 == 2) then ((g_order_Open a.2)).bind (fun (v5 : Int) =>
      ((g_num_Add (a.1.2.2.1, (v5, ())))).bind (fun (v6 : (Int × (Int × Unit))) =>
       ((g_num_Add (a.1.2.2.2.1, (v4.1, ())))).bind (fun (v7 : (Int × (Int × Unit))) =>
        (
         bif (((v4.2.1 != 0) || (v6.2.1 != 0)) || (v7.2.1 != 0)) then some true
         else ((g_cell_Right ((a.1.1, (a.1.2.1, (v6.1, (v7.1, ())))), ()))).bind (fun (v8 : Bool) =>
          some (!v8))).bind (fun (v9 : Bool) =>
         bif v9 then some (a.1, (3, ()))
         else some ((a.1.1, (a.1.2.1, (v6.1, (v7.1, ())))), (0, ()))))))
    else ((g_order_Open a.2)).bind (fun (v10 : Int) =>
     ((g_num_Add (a.1.2.1, (v10, ())))).bind (fun (v11 : (Int × (Int × Unit))) =>
      ((g_num_Add (a.1.2.2.2.1, (v4.1, ())))).bind (fun (v12 : (Int × (Int × Unit))) =>
       (
        bif (((v4.2.1 != 0) || (v11.2.1 != 0)) || (v12.2.1 != 0)) then some true
        else ((g_cell_Right ((a.1.1, (v11.1, (a.1.2.2.1, (v12.1, ())))), ()))).bind (fun (v13 : Bool) =>
         some (!v13))).bind (fun (v14 : Bool) =>
        bif v14 then some (a.1, (3, ()))
        else some ((a.1.1, (v11.1, (a.1.2.2.1, (v12.1, ())))), (0, ())))))))))
noncomputable def tc29 : TCn := ⟨[shCell, shOrder], [shCell, (.int .i64)], g_cell_Come⟩
noncomputable def T29 := (29, tc29) :: T37
theorem t29 : Tbl Try.prog T29 := Tbl.add t37 hn 6 29 tc29 (by kernel_rfl) (fun a => by kernel_rfl)
noncomputable def g_cell_Of (a : (CellT × Unit)) : Option (ExpoT × (Int × Unit)) :=
 ((g_cell_Right a)).bind (fun (v1 : Bool) =>
  bif (!v1) then some ((0, (0, (0, ()))), (1, ()))
  else ((g_cell_expo a)).bind (fun (v2 : (ExpoT × (Bool × Unit))) =>
   some (v2.1, (0, ()))))
noncomputable def tc26 : TCn := ⟨[shCell], [shExpo, (.int .i64)], g_cell_Of⟩
noncomputable def T26 := (26, tc26) :: T29
theorem t26 : Tbl Try.prog T26 := Tbl.add t29 hn 6 26 tc26 (by kernel_rfl) (fun a => by kernel_rfl)
noncomputable def g_cell_Did (a : (CellT × (Int × (Int × Unit)))) : Option (CellT × (Int × Unit)) :=
 ((g_cell_Right (a.1, ()))).bind (fun (v1 : Bool) =>
  bif (((!v1) || ((a.2.1 != 1) && (a.2.1 != 2))) || (decide (a.2.2.1 < 0))) then some (a.1, (1, ()))
  else (
   bif (a.2.1 == 1) then ((g_num_Add (a.1.1, a.2.2))).bind (fun (v2 : (Int × (Int × Unit))) =>
     some (v2.2.1, (v2.1, a.1.2)))
   else ((g_num_Sub (a.1.1, a.2.2))).bind (fun (v3 : (Int × (Int × Unit))) =>
    some (v3.2.1, (v3.1, a.1.2)))).bind (fun (v4 : NoteT) =>
   (
    bif (v4.1 != 0) then some true
    else ((g_cell_Right (v4.2, ()))).bind (fun (v5 : Bool) =>
     some (!v5))).bind (fun (v6 : Bool) =>
    bif v6 then some (a.1, (3, ()))
    else some (v4.2, (0, ())))))
noncomputable def tc33 : TCn := ⟨[shCell, (.int .i64), (.int .i64)], [shCell, (.int .i64)], g_cell_Did⟩
noncomputable def T33 := (33, tc33) :: T26
theorem t33 : Tbl Try.prog T33 := Tbl.add t26 hn 6 33 tc33 (by kernel_rfl) (fun a => by kernel_rfl)
noncomputable def g_cell_Go (a : (CellT × (OrderT × Unit))) : Option (CellT × (Int × Unit)) :=
 ((g_cell_Right (a.1, ()))).bind (fun (v1 : Bool) =>
  (
   bif (!v1) then some true
   else ((g_order_Right a.2)).bind (fun (v2 : Bool) =>
    some (!v2))).bind (fun (v3 : Bool) =>
   bif v3 then some (a.1, (1, ()))
   else ((g_order_Worth a.2)).bind (fun (v4 : (Int × (Int × Unit))) =>
    bif (a.2.1.2.2.2.1 == 2) then ((g_order_Open a.2)).bind (fun (v5 : Int) =>
      ((g_num_Sub (a.1.2.2.1, (v5, ())))).bind (fun (v6 : (Int × (Int × Unit))) =>
       ((g_num_Sub (a.1.2.2.2.1, (v4.1, ())))).bind (fun (v7 : (Int × (Int × Unit))) =>
        (
         bif (((v4.2.1 != 0) || (v6.2.1 != 0)) || (v7.2.1 != 0)) then some true
         else ((g_cell_Right ((a.1.1, (a.1.2.1, (v6.1, (v7.1, ())))), ()))).bind (fun (v8 : Bool) =>
          some (!v8))).bind (fun (v9 : Bool) =>
         bif v9 then some (a.1, (3, ()))
         else some ((a.1.1, (a.1.2.1, (v6.1, (v7.1, ())))), (0, ()))))))
    else ((g_order_Open a.2)).bind (fun (v10 : Int) =>
     ((g_num_Sub (a.1.2.1, (v10, ())))).bind (fun (v11 : (Int × (Int × Unit))) =>
      ((g_num_Sub (a.1.2.2.2.1, (v4.1, ())))).bind (fun (v12 : (Int × (Int × Unit))) =>
       (
        bif (((v4.2.1 != 0) || (v11.2.1 != 0)) || (v12.2.1 != 0)) then some true
        else ((g_cell_Right ((a.1.1, (v11.1, (a.1.2.2.1, (v12.1, ())))), ()))).bind (fun (v13 : Bool) =>
         some (!v13))).bind (fun (v14 : Bool) =>
        bif v14 then some (a.1, (3, ()))
        else some ((a.1.1, (v11.1, (a.1.2.2.1, (v12.1, ())))), (0, ())))))))))
noncomputable def tc31 : TCn := ⟨[shCell, shOrder], [shCell, (.int .i64)], g_cell_Go⟩
noncomputable def T31 := (31, tc31) :: T33
theorem t31 : Tbl Try.prog T31 := Tbl.add t33 hn 6 31 tc31 (by kernel_rfl) (fun a => by kernel_rfl)
noncomputable def g_cell_Covers (a : (ExpoT × (ExpoT × Unit))) : Option Bool :=
 some (((decide (a.1.1 ≥ a.2.1.1)) && (decide (a.1.2.1 ≥ a.2.1.2.1))) && (decide (a.1.2.2.1 ≥ a.2.1.2.2.1)))
noncomputable def tc35 : TCn := ⟨[shExpo, shExpo], [.bool], g_cell_Covers⟩
noncomputable def T35 := (35, tc35) :: T31
theorem t35 : Tbl Try.prog T35 := Tbl.add t31 hn 6 35 tc35 (by kernel_rfl) (fun a => by kernel_rfl)
noncomputable def g_law08_awake (a : Unit) : Option Bool :=
 ((g_cell_Come ((0, (0, (0, (0, ())))), ((1, (0, (0, (1, (10, (3, (0, (2, (0, (0, (0, (false, ())))))))))))), ())))).bind (fun (v1 : (CellT × (Int × Unit))) =>
  ((g_cell_Of (v1.1, ()))).bind (fun (v2 : (ExpoT × (Int × Unit))) =>
   ((g_cell_Did (v1.1, (1, (4, ()))))).bind (fun (v3 : (CellT × (Int × Unit))) =>
    ((g_cell_Go (v1.1, ((1, (0, (0, (1, (10, (3, (0, (2, (0, (0, (0, (false, ())))))))))))), ())))).bind (fun (v4 : (CellT × (Int × Unit))) =>
     ((g_cell_Did (v1.1, (0, (1, ()))))).bind (fun (v5 : (CellT × (Int × Unit))) =>
      (
       bif ((((((((v1.2.1 == 0) && ((v2.1.1 == 10) && ((v2.1.2.1 == 0) && ((v2.1.2.2.1 == 30) && true)))) && (v2.2.1 == 0)) && (v3.2.1 == 0)) && (v3.1.1 == 4)) && (v4.2.1 == 0)) && ((v4.1.1 == 0) && ((v4.1.2.1 == 0) && ((v4.1.2.2.1 == 0) && ((v4.1.2.2.2.1 == 0) && true))))) && (v5.2.1 == 1)) then ((g_cell_Covers (v2.1, (v2.1, ())))).bind (fun (v6 : Bool) =>
         some v6)
       else some false).bind (fun (v7 : Bool) =>
       (
        bif v7 then ((g_cell_Covers ((0, (0, (0, ()))), (v2.1, ())))).bind (fun (v8 : Bool) =>
          some (!v8))
        else some false).bind (fun (v9 : Bool) =>
        (
         bif v9 then ((g_cell_Right (v3.1, ()))).bind (fun (v10 : Bool) =>
           some v10)
         else some false).bind (fun (v11 : Bool) =>
         some v11))))))))
noncomputable def tc24 : TCn := ⟨[], [.bool], g_law08_awake⟩
noncomputable def T24 := (24, tc24) :: T35
theorem t24 : Tbl Try.prog T24 := Tbl.add t35 hn 6 24 tc24 (by kernel_rfl) (fun a => by kernel_rfl)
noncomputable def g_ref01_Add (a : (Int × (Int × Unit))) : Option (Int × (Bool × Unit)) :=
 bif (((decide (a.2.1 > 0)) && (decide (a.1 > (IntKind.wrap .i64 (9223372036854775807 - a.2.1))))) || ((decide (a.2.1 < 0)) && (decide (a.1 < (IntKind.wrap .i64 ((-9223372036854775808) - a.2.1)))))) then some (0, (false, ()))
 else some ((IntKind.wrap .i64 (a.1 + a.2.1)), (true, ()))
noncomputable def tc57 : TCn := ⟨[(.int .i64), (.int .i64)], [(.int .i64), .bool], g_ref01_Add⟩
noncomputable def T57 := (57, tc57) :: T24
theorem t57 : Tbl Try.prog T57 := Tbl.add t24 hn 6 57 tc57 (by kernel_rfl) (fun a => by kernel_rfl)
noncomputable def g_ref01_Sub (a : (Int × (Int × Unit))) : Option (Int × (Bool × Unit)) :=
 bif (((decide (a.2.1 < 0)) && (decide (a.1 > (IntKind.wrap .i64 (9223372036854775807 + a.2.1))))) || ((decide (a.2.1 > 0)) && (decide (a.1 < (IntKind.wrap .i64 ((-9223372036854775808) + a.2.1)))))) then some (0, (false, ()))
 else some ((IntKind.wrap .i64 (a.1 - a.2.1)), (true, ()))
noncomputable def tc58 : TCn := ⟨[(.int .i64), (.int .i64)], [(.int .i64), .bool], g_ref01_Sub⟩
noncomputable def T58 := (58, tc58) :: T57
theorem t58 : Tbl Try.prog T58 := Tbl.add t57 hn 6 58 tc58 (by kernel_rfl) (fun a => by kernel_rfl)
noncomputable def g_ref08_Right (a : (CellT × Unit)) : Option Bool :=
 ((g_ref01_Add (a.1.1, (a.1.2.1, ())))).bind (fun (v1 : (Int × (Bool × Unit))) =>
  ((g_ref01_Sub (a.1.2.2.1, (a.1.1, ())))).bind (fun (v2 : (Int × (Bool × Unit))) =>
   some ((((v1.2.1 && v2.2.1) && (decide (a.1.2.1 ≥ 0))) && (decide (a.1.2.2.1 ≥ 0))) && (decide (a.1.2.2.2.1 ≥ 0)))))
noncomputable def tc25 : TCn := ⟨[shCell], [.bool], g_ref08_Right⟩
noncomputable def T25 := (25, tc25) :: T58
theorem t25 : Tbl Try.prog T25 := Tbl.add t58 hn 6 25 tc25 (by kernel_rfl) (fun a => by kernel_rfl)
noncomputable def g_ref08_Of (a : (CellT × Unit)) : Option ExpoT :=
 some ((IntKind.wrap .i64 (a.1.1 + a.1.2.1)), ((IntKind.wrap .i64 (a.1.2.2.1 - a.1.1)), a.1.2.2.2))
noncomputable def tc28 : TCn := ⟨[shCell], [shExpo], g_ref08_Of⟩
noncomputable def T28 := (28, tc28) :: T25
theorem t28 : Tbl Try.prog T28 := Tbl.add t25 hn 6 28 tc28 (by kernel_rfl) (fun a => by kernel_rfl)
noncomputable def g_ref06_id (a : (Int × Unit)) : Option Bool :=
 some ((decide (a.1 > 0)) && (decide (a.1 ≤ 1000000000000)))
noncomputable def tc86 : TCn := ⟨[(.int .i64)], [.bool], g_ref06_id⟩
noncomputable def T86 := (86, tc86) :: T28
theorem t86 : Tbl Try.prog T86 := Tbl.add t28 hn 6 86 tc86 (by kernel_rfl) (fun a => by kernel_rfl)
noncomputable def g_ref06_Right (a : (RecT × Unit)) : Option Bool :=
 (
  bif (a.1.1 == 1) then ((g_ref06_id (a.1.2.1, ()))).bind (fun (v1 : Bool) =>
    some (((((((((v1 && (decide (a.1.2.2.1 ≥ 0))) && (decide (a.1.2.2.1 < 8))) && (decide (a.1.2.2.2.1 ≥ 0))) && (decide (a.1.2.2.2.1 < 8))) && (decide (a.1.2.2.2.2.1 ≥ 1))) && (decide (a.1.2.2.2.2.1 ≤ 2))) && (decide (a.1.2.2.2.2.2.1 > 0))) && (decide (a.1.2.2.2.2.2.2.1 > 0))), (a.1.1, (a.1.2.1, (a.1.2.2.1, (a.1.2.2.2.1, (a.1.2.2.2.2.1, (a.1.2.2.2.2.2.1, (a.1.2.2.2.2.2.2.1, (0, (0, (0, (false, (0, (0, ())))))))))))))))
  else (
   bif (a.1.1 == 2) then ((g_ref06_id (a.1.2.1, ()))).bind (fun (v2 : Bool) =>
     some (((v2 && (decide (a.1.2.2.2.2.2.1 > 0))) && (decide (a.1.2.2.2.2.2.2.1 > 0))), (a.1.1, (a.1.2.1, (0, (0, (0, (a.1.2.2.2.2.2.1, (a.1.2.2.2.2.2.2.1, (0, (0, (0, (false, (0, (0, ())))))))))))))))
   else (
    bif (a.1.1 == 3) then ((g_ref06_id (a.1.2.1, ()))).bind (fun (v3 : Bool) =>
      some (v3, (a.1.1, (a.1.2.1, (0, (0, (0, (0, (0, (0, (0, (0, (false, (0, (0, ())))))))))))))))
    else (
     bif (a.1.1 == 4) then (
       bif ((a.1.2.2.2.1 == (-1)) && ((a.1.2.2.2.2.2.2.2.1 != 0) || (a.1.2.2.2.2.2.2.2.2.1 != 0))) then some (false, ())
       else some ((((((((decide (a.1.2.2.1 ≥ 0)) && (decide (a.1.2.2.1 < 8))) && (decide (a.1.2.2.2.1 ≥ (-1)))) && (decide (a.1.2.2.2.1 < 8))) && (decide (a.1.2.2.2.2.2.2.2.1 ≥ 0))) && (decide (a.1.2.2.2.2.2.2.2.2.1 ≥ 0))) && (decide (a.1.2.2.2.2.2.2.2.2.2.1 ≥ 0))), ())).bind (fun (v4 : (Bool × Unit)) =>
       some (v4.1, (a.1.1, (0, (a.1.2.2.1, (a.1.2.2.2.1, (0, (0, (0, (a.1.2.2.2.2.2.2.2.1, (a.1.2.2.2.2.2.2.2.2.1, (a.1.2.2.2.2.2.2.2.2.2.1, (false, (0, (0, ())))))))))))))))
     else (
      bif (a.1.1 == 5) then some (true, (a.1.1, (0, (0, (0, (0, (0, (0, (0, (0, (0, (a.1.2.2.2.2.2.2.2.2.2.2.1, (0, (0, ()))))))))))))))
      else (
       bif (a.1.1 == 6) then (
         bif ((((decide (a.1.2.2.2.2.2.2.2.2.2.2.2.1 > 0)) && (decide (a.1.2.2.2.2.2.2.2.2.2.2.2.1 ≤ 1000000000))) && (decide (a.1.2.2.2.2.2.2.2.2.2.2.2.2.1 ≥ 1))) && (decide (a.1.2.2.2.2.2.2.2.2.2.2.2.2.1 ≤ 6))) then ((g_ref06_id (a.1.2.1, ()))).bind (fun (v5 : Bool) =>
           some v5)
         else some false).bind (fun (v6 : Bool) =>
         (
          bif ((a.1.2.2.2.2.2.2.2.2.2.2.2.2.1 == 3) || (a.1.2.2.2.2.2.2.2.2.2.2.2.2.1 == 5)) then some ((v6 && (decide (a.1.2.2.2.2.2.1 > 0))), (a.1.1, (a.1.2.1, (0, (0, (0, (a.1.2.2.2.2.2.1, (0, (0, (0, (0, (false, a.1.2.2.2.2.2.2.2.2.2.2.2))))))))))))
          else some (v6, (a.1.1, (a.1.2.1, (0, (0, (0, (0, (0, (0, (0, (0, (false, a.1.2.2.2.2.2.2.2.2.2.2.2))))))))))))).bind (fun (v7 : (Bool × RecT)) =>
          (
           bif (a.1.2.2.2.2.2.2.2.2.2.2.2.2.1 == 5) then some ((v7.1 && (decide (a.1.2.2.2.2.2.2.1 > 0))), (v7.2.1, (v7.2.2.1, (v7.2.2.2.1, (v7.2.2.2.2.1, (v7.2.2.2.2.2.1, (v7.2.2.2.2.2.2.1, (a.1.2.2.2.2.2.2.1, v7.2.2.2.2.2.2.2.2))))))))
           else some v7).bind (fun (v8 : (Bool × RecT)) =>
           some v8)))
       else some (false, (a.1.1, (0, (0, (0, (0, (0, (0, (0, (0, (0, (false, (0, (0, ()))))))))))))))).bind (fun (v9 : (Bool × RecT)) =>
       some v9)).bind (fun (v10 : (Bool × RecT)) =>
      some v10)).bind (fun (v11 : (Bool × RecT)) =>
     some v11)).bind (fun (v12 : (Bool × RecT)) =>
    some v12)).bind (fun (v13 : (Bool × RecT)) =>
   some v13)).bind (fun (v14 : (Bool × RecT)) =>
  some (v14.1 && ((a.1.1 == v14.2.1) && ((a.1.2.1 == v14.2.2.1) && ((a.1.2.2.1 == v14.2.2.2.1) && ((a.1.2.2.2.1 == v14.2.2.2.2.1) && ((a.1.2.2.2.2.1 == v14.2.2.2.2.2.1) && ((a.1.2.2.2.2.2.1 == v14.2.2.2.2.2.2.1) && ((a.1.2.2.2.2.2.2.1 == v14.2.2.2.2.2.2.2.1) && ((a.1.2.2.2.2.2.2.2.1 == v14.2.2.2.2.2.2.2.2.1) && ((a.1.2.2.2.2.2.2.2.2.1 == v14.2.2.2.2.2.2.2.2.2.1) && ((a.1.2.2.2.2.2.2.2.2.2.1 == v14.2.2.2.2.2.2.2.2.2.2.1) && ((a.1.2.2.2.2.2.2.2.2.2.2.1 == v14.2.2.2.2.2.2.2.2.2.2.2.1) && ((a.1.2.2.2.2.2.2.2.2.2.2.2.1 == v14.2.2.2.2.2.2.2.2.2.2.2.2.1) && ((a.1.2.2.2.2.2.2.2.2.2.2.2.2.1 == v14.2.2.2.2.2.2.2.2.2.2.2.2.2.1) && true)))))))))))))))
noncomputable def tc69 : TCn := ⟨[shRec], [.bool], g_ref06_Right⟩
noncomputable def T69 := (69, tc69) :: T86
theorem t69 : Tbl Try.prog T69 := Tbl.add t86 hn 6 69 tc69 (by kernel_rfl) (fun a => by kernel_rfl)
noncomputable def g_ref07_Right (a : (OrderT × Unit)) : Option Bool :=
 ((g_ref06_Right ((1, (a.1.1, (a.1.2.1, (a.1.2.2.1, (a.1.2.2.2.1, (a.1.2.2.2.2.1, (a.1.2.2.2.2.2.1, (0, (0, (0, (false, (0, (0, ()))))))))))))), ()))).bind (fun (v1 : Bool) =>
  bif (!v1) then some false
  else bif (((decide (a.1.2.2.2.2.2.2.1 < 0)) || (decide (a.1.2.2.2.2.2.2.1 > a.1.2.2.2.2.1))) || (decide (a.1.2.2.2.2.2.2.2.2.2.2.1 < 0))) then some false
  else bif ((!((a.1.2.2.2.2.2.2.2.2.1 == 0) && (a.1.2.2.2.2.2.2.2.2.2.1 == 0))) && ((decide (a.1.2.2.2.2.2.2.2.2.1 < 1)) || (decide (a.1.2.2.2.2.2.2.2.2.2.1 < 1)))) then some false
  else bif (a.1.2.2.2.2.2.2.2.1 == 1) then some ((((a.1.2.2.2.2.2.2.2.2.1 == 0) && (a.1.2.2.2.2.2.2.2.2.2.1 == 0)) && (a.1.2.2.2.2.2.2.1 == 0)) && (a.1.2.2.2.2.2.2.2.2.2.2.1 == 0))
  else bif (a.1.2.2.2.2.2.2.2.1 == 2) then some (a.1.2.2.2.2.2.2.1 != a.1.2.2.2.2.1)
  else some ((a.1.2.2.2.2.2.2.2.1 == 3) && ((a.1.2.2.2.2.2.2.2.2.1 == 0) && (a.1.2.2.2.2.2.2.2.2.2.1 == 0))))
noncomputable def tc43 : TCn := ⟨[shOrder], [.bool], g_ref07_Right⟩
noncomputable def T43 := (43, tc43) :: T69
theorem t43 : Tbl Try.prog T43 := Tbl.add t69 hn 6 43 tc43 (by kernel_rfl) (fun a => by kernel_rfl)
noncomputable def g_ref01_whole (a : (Int × Unit)) : Option Int :=
 bif (decide (a.1 < 0)) then some (IntKind.wrap .u64 ((IntKind.wrap .u64 (IntKind.wrap .i64 (0 - (IntKind.wrap .i64 (a.1 + 1))))) + 1))
 else some (IntKind.wrap .u64 a.1)
noncomputable def tc89 : TCn := ⟨[(.int .i64)], [(.int .u64)], g_ref01_whole⟩
noncomputable def T89 := (89, tc89) :: T43
theorem t89 : Tbl Try.prog T89 := Tbl.add t43 hn 6 89 tc89 (by kernel_rfl) (fun a => by kernel_rfl)
noncomputable def g_ref01_Mul (a : (Int × (Int × Unit))) : Option (Int × (Bool × Unit)) :=
 ((g_ref01_whole (a.1, ()))).bind (fun (v1 : Int) =>
  ((g_ref01_whole a.2)).bind (fun (v2 : Int) =>
   bif ((decide ((Int.fdiv v1 (2 ^ 32)) > 0)) && (decide ((Int.fdiv v2 (2 ^ 32)) > 0))) then some (0, (false, ()))
   else bif (decide ((IntKind.wrap .u64 ((IntKind.wrap .u64 ((Int.fdiv v1 (2 ^ 32)) * (Go.bits Go.BinOp.and Go.IntKind.u64 v2 4294967295))) + (IntKind.wrap .u64 ((Go.bits Go.BinOp.and Go.IntKind.u64 v1 4294967295) * (Int.fdiv v2 (2 ^ 32)))))) ≥ 4294967296)) then some (0, (false, ()))
   else bif ((decide ((IntKind.wrap .u64 ((IntKind.wrap .u64 ((IntKind.wrap .u64 ((IntKind.wrap .u64 ((Int.fdiv v1 (2 ^ 32)) * (Go.bits Go.BinOp.and Go.IntKind.u64 v2 4294967295))) + (IntKind.wrap .u64 ((Go.bits Go.BinOp.and Go.IntKind.u64 v1 4294967295) * (Int.fdiv v2 (2 ^ 32)))))) * (2 ^ 32))) + (IntKind.wrap .u64 ((Go.bits Go.BinOp.and Go.IntKind.u64 v1 4294967295) * (Go.bits Go.BinOp.and Go.IntKind.u64 v2 4294967295))))) < (IntKind.wrap .u64 ((Go.bits Go.BinOp.and Go.IntKind.u64 v1 4294967295) * (Go.bits Go.BinOp.and Go.IntKind.u64 v2 4294967295))))) || (decide ((IntKind.wrap .u64 ((IntKind.wrap .u64 ((IntKind.wrap .u64 ((IntKind.wrap .u64 ((Int.fdiv v1 (2 ^ 32)) * (Go.bits Go.BinOp.and Go.IntKind.u64 v2 4294967295))) + (IntKind.wrap .u64 ((Go.bits Go.BinOp.and Go.IntKind.u64 v1 4294967295) * (Int.fdiv v2 (2 ^ 32)))))) * (2 ^ 32))) + (IntKind.wrap .u64 ((Go.bits Go.BinOp.and Go.IntKind.u64 v1 4294967295) * (Go.bits Go.BinOp.and Go.IntKind.u64 v2 4294967295))))) > 9223372036854775808))) then some (0, (false, ()))
   else bif ((decide (a.1 < 0)) != (decide (a.2.1 < 0))) then some ((IntKind.wrap .i64 (IntKind.wrap .u64 (0 - (IntKind.wrap .u64 ((IntKind.wrap .u64 ((IntKind.wrap .u64 ((IntKind.wrap .u64 ((Int.fdiv v1 (2 ^ 32)) * (Go.bits Go.BinOp.and Go.IntKind.u64 v2 4294967295))) + (IntKind.wrap .u64 ((Go.bits Go.BinOp.and Go.IntKind.u64 v1 4294967295) * (Int.fdiv v2 (2 ^ 32)))))) * (2 ^ 32))) + (IntKind.wrap .u64 ((Go.bits Go.BinOp.and Go.IntKind.u64 v1 4294967295) * (Go.bits Go.BinOp.and Go.IntKind.u64 v2 4294967295)))))))), (true, ()))
   else some ((IntKind.wrap .i64 (IntKind.wrap .u64 ((IntKind.wrap .u64 ((IntKind.wrap .u64 ((IntKind.wrap .u64 ((Int.fdiv v1 (2 ^ 32)) * (Go.bits Go.BinOp.and Go.IntKind.u64 v2 4294967295))) + (IntKind.wrap .u64 ((Go.bits Go.BinOp.and Go.IntKind.u64 v1 4294967295) * (Int.fdiv v2 (2 ^ 32)))))) * (2 ^ 32))) + (IntKind.wrap .u64 ((Go.bits Go.BinOp.and Go.IntKind.u64 v1 4294967295) * (Go.bits Go.BinOp.and Go.IntKind.u64 v2 4294967295)))))), ((decide ((IntKind.wrap .u64 ((IntKind.wrap .u64 ((IntKind.wrap .u64 ((IntKind.wrap .u64 ((Int.fdiv v1 (2 ^ 32)) * (Go.bits Go.BinOp.and Go.IntKind.u64 v2 4294967295))) + (IntKind.wrap .u64 ((Go.bits Go.BinOp.and Go.IntKind.u64 v1 4294967295) * (Int.fdiv v2 (2 ^ 32)))))) * (2 ^ 32))) + (IntKind.wrap .u64 ((Go.bits Go.BinOp.and Go.IntKind.u64 v1 4294967295) * (Go.bits Go.BinOp.and Go.IntKind.u64 v2 4294967295))))) < 9223372036854775808)), ()))))
noncomputable def tc74 : TCn := ⟨[(.int .i64), (.int .i64)], [(.int .i64), .bool], g_ref01_Mul⟩
noncomputable def T74 := (74, tc74) :: T89
theorem t74 : Tbl Try.prog T74 := Tbl.add t89 hn 6 74 tc74 (by kernel_rfl) (fun a => by kernel_rfl)
noncomputable def g_ref07_Worth (a : (OrderT × Unit)) : Option (Int × (Int × Unit)) :=
 ((g_ref07_Right a)).bind (fun (v1 : Bool) =>
  bif (!v1) then some (0, (1, ()))
  else bif (a.1.2.2.2.2.2.2.2.1 == 3) then some (0, (0, ()))
  else ((g_ref01_Mul ((IntKind.wrap .i64 (a.1.2.2.2.2.1 - a.1.2.2.2.2.2.2.1)), (a.1.2.2.2.2.2.1, ())))).bind (fun (v2 : (Int × (Bool × Unit))) =>
   bif (!v2.2.1) then some (0, (3, ()))
   else (
    bif (decide (a.1.2.2.2.2.2.2.2.2.1 > a.1.2.2.2.2.2.2.1)) then ((g_ref01_Mul ((IntKind.wrap .i64 (a.1.2.2.2.2.2.2.2.2.1 - a.1.2.2.2.2.2.2.1)), (a.1.2.2.2.2.2.2.2.2.2.1, ())))).bind (fun (v3 : (Int × (Bool × Unit))) =>
      bif (!v3.2.1) then (some (0, (3, ()))).map .inr
      else bif (decide (v3.1 > v2.1)) then (some (v3.1, (0, ()))).map .inr
      else some (.inl ()))
    else some (.inl ())).bind (eX (fun (v4 : Unit) =>
    some (v2.1, (0, ()))))))
noncomputable def tc50 : TCn := ⟨[shOrder], [(.int .i64), (.int .i64)], g_ref07_Worth⟩
noncomputable def T50 := (50, tc50) :: T74
theorem t50 : Tbl Try.prog T50 := Tbl.add t74 hn 6 50 tc50 (by kernel_rfl) (fun a => by kernel_rfl)
noncomputable def g_ref07_Open (a : (OrderT × Unit)) : Option Int :=
 ((g_ref07_Right a)).bind (fun (v1 : Bool) =>
  bif ((!v1) || (a.1.2.2.2.2.2.2.2.1 == 3)) then some 0
  else (
   bif (decide (a.1.2.2.2.2.2.2.2.2.1 > a.1.2.2.2.2.1)) then some ((IntKind.wrap .i64 (a.1.2.2.2.2.2.2.2.2.1 - a.1.2.2.2.2.2.2.1)), ())
   else some ((IntKind.wrap .i64 (a.1.2.2.2.2.1 - a.1.2.2.2.2.2.2.1)), ())).bind (fun (v2 : (Int × Unit)) =>
   some v2.1))
noncomputable def tc51 : TCn := ⟨[shOrder], [(.int .i64)], g_ref07_Open⟩
noncomputable def T51 := (51, tc51) :: T50
theorem t51 : Tbl Try.prog T51 := Tbl.add t50 hn 6 51 tc51 (by kernel_rfl) (fun a => by kernel_rfl)
noncomputable def g_ref08_more (a : (Int × (Int × (Bool × Unit)))) : Option (Int × (Bool × Unit)) :=
 bif a.2.2.1 then ((g_ref01_Sub (a.1, (a.2.1, ())))).bind (fun (v1 : (Int × (Bool × Unit))) =>
   some v1)
 else ((g_ref01_Add (a.1, (a.2.1, ())))).bind (fun (v2 : (Int × (Bool × Unit))) =>
  some v2)
noncomputable def tc64 : TCn := ⟨[(.int .i64), (.int .i64), .bool], [(.int .i64), .bool], g_ref08_more⟩
noncomputable def T64 := (64, tc64) :: T51
theorem t64 : Tbl Try.prog T64 := Tbl.add t51 hn 6 64 tc64 (by kernel_rfl) (fun a => by kernel_rfl)
noncomputable def g_ref08_turn (a : (CellT × (OrderT × (Bool × Unit)))) : Option (CellT × (Int × Unit)) :=
 ((g_ref08_Right (a.1, ()))).bind (fun (v1 : Bool) =>
  (
   bif (!v1) then some true
   else ((g_ref07_Right (a.2.1, ()))).bind (fun (v2 : Bool) =>
    some (!v2))).bind (fun (v3 : Bool) =>
   bif v3 then some (a.1, (1, ()))
   else ((g_ref07_Worth (a.2.1, ()))).bind (fun (v4 : (Int × (Int × Unit))) =>
    bif (v4.2.1 != 0) then some (a.1, (3, ()))
    else (
     bif (a.2.1.2.2.2.1 == 1) then ((g_ref07_Open (a.2.1, ()))).bind (fun (v5 : Int) =>
       ((g_ref08_more (a.1.2.1, (v5, a.2.2)))).bind (fun (v6 : (Int × (Bool × Unit))) =>
        some (v6.2.1, (a.1.1, (v6.1, a.1.2.2)))))
     else ((g_ref07_Open (a.2.1, ()))).bind (fun (v7 : Int) =>
      ((g_ref08_more (a.1.2.2.1, (v7, a.2.2)))).bind (fun (v8 : (Int × (Bool × Unit))) =>
       some (v8.2.1, (a.1.1, (a.1.2.1, (v8.1, a.1.2.2.2))))))).bind (fun (v9 : (Bool × CellT)) =>
     ((g_ref08_more (a.1.2.2.2.1, (v4.1, a.2.2)))).bind (fun (v10 : (Int × (Bool × Unit))) =>
      (
       bif ((!v9.1) || (!v10.2.1)) then some true
       else ((g_ref08_Right ((v9.2.1, (v9.2.2.1, (v9.2.2.2.1, (v10.1, ())))), ()))).bind (fun (v11 : Bool) =>
        some (!v11))).bind (fun (v12 : Bool) =>
       bif v12 then some (a.1, (3, ()))
       else some ((v9.2.1, (v9.2.2.1, (v9.2.2.2.1, (v10.1, ())))), (0, ()))))))))
noncomputable def tc62 : TCn := ⟨[shCell, shOrder, .bool], [shCell, (.int .i64)], g_ref08_turn⟩
noncomputable def T62 := (62, tc62) :: T64
theorem t62 : Tbl Try.prog T62 := Tbl.add t64 hn 6 62 tc62 (by kernel_rfl) (fun a => by kernel_rfl)
noncomputable def g_ref08_Come (a : (CellT × (OrderT × Unit))) : Option (CellT × (Int × Unit)) :=
 ((g_ref08_turn (a.1, (a.2.1, (false, ()))))).bind (fun (v1 : (CellT × (Int × Unit))) =>
  some v1)
noncomputable def tc30 : TCn := ⟨[shCell, shOrder], [shCell, (.int .i64)], g_ref08_Come⟩
noncomputable def T30 := (30, tc30) :: T62
theorem t30 : Tbl Try.prog T30 := Tbl.add t62 hn 6 30 tc30 (by kernel_rfl) (fun a => by kernel_rfl)
noncomputable def g_ref08_Go (a : (CellT × (OrderT × Unit))) : Option (CellT × (Int × Unit)) :=
 ((g_ref08_turn (a.1, (a.2.1, (true, ()))))).bind (fun (v1 : (CellT × (Int × Unit))) =>
  some v1)
noncomputable def tc32 : TCn := ⟨[shCell, shOrder], [shCell, (.int .i64)], g_ref08_Go⟩
noncomputable def T32 := (32, tc32) :: T30
theorem t32 : Tbl Try.prog T32 := Tbl.add t30 hn 6 32 tc32 (by kernel_rfl) (fun a => by kernel_rfl)
noncomputable def g_ref08_Did (a : (CellT × (Int × (Int × Unit)))) : Option (CellT × (Int × Unit)) :=
 ((g_ref08_Right (a.1, ()))).bind (fun (v1 : Bool) =>
  bif ((((!v1) || (decide (a.2.1 < 1))) || (decide (a.2.1 > 2))) || (decide (a.2.2.1 < 0))) then some (a.1, (1, ()))
  else ((g_ref08_more (a.1.1, (a.2.2.1, ((a.2.1 == 2), ()))))).bind (fun (v2 : (Int × (Bool × Unit))) =>
   (
    bif (!v2.2.1) then some true
    else ((g_ref08_Right ((v2.1, a.1.2), ()))).bind (fun (v3 : Bool) =>
     some (!v3))).bind (fun (v4 : Bool) =>
    bif v4 then some (a.1, (3, ()))
    else some ((v2.1, a.1.2), (0, ())))))
noncomputable def tc34 : TCn := ⟨[shCell, (.int .i64), (.int .i64)], [shCell, (.int .i64)], g_ref08_Did⟩
noncomputable def T34 := (34, tc34) :: T32
theorem t34 : Tbl Try.prog T34 := Tbl.add t32 hn 6 34 tc34 (by kernel_rfl) (fun a => by kernel_rfl)
noncomputable def g_ref08_Covers (a : (ExpoT × (ExpoT × Unit))) : Option Bool :=
 some (((!(decide (a.1.1 < a.2.1.1))) && (!(decide (a.1.2.1 < a.2.1.2.1)))) && (!(decide (a.1.2.2.1 < a.2.1.2.2.1))))
noncomputable def tc36 : TCn := ⟨[shExpo, shExpo], [.bool], g_ref08_Covers⟩
noncomputable def T36 := (36, tc36) :: T34
theorem t36 : Tbl Try.prog T36 := Tbl.add t34 hn 6 36 tc36 (by kernel_rfl) (fun a => by kernel_rfl)
noncomputable def g_law08_CellRight (a : (CellT × (OrderT × (Int × (Int × (ExpoT × (ExpoT × Unit))))))) : Option Bool :=
 ((g_law08_awake ())).bind (fun (v1 : Bool) =>
  bif (!v1) then some false
  else ((g_ref08_Right (a.1, ()))).bind (fun (v2 : Bool) =>
   ((g_cell_Of (a.1, ()))).bind (fun (v3 : (ExpoT × (Int × Unit))) =>
    ((g_cell_Right (a.1, ()))).bind (fun (v4 : Bool) =>
     (
      bif (v4 != v2) then some true
      else (
       bif v2 then (
         bif (v3.2.1 != 0) then some true
         else ((g_ref08_Of (a.1, ()))).bind (fun (v5 : ExpoT) =>
          some (!((v3.1.1 == v5.1) && ((v3.1.2.1 == v5.2.1) && ((v3.1.2.2.1 == v5.2.2.1) && true)))))).bind (fun (v6 : Bool) =>
         some v6)
       else some false).bind (fun (v7 : Bool) =>
       some v7)).bind (fun (v8 : Bool) =>
      bif (v8 || ((!v2) && ((v3.2.1 != 1) || (!((v3.1.1 == 0) && ((v3.1.2.1 == 0) && ((v3.1.2.2.1 == 0) && true))))))) then some false
      else ((g_cell_Come (a.1, (a.2.1, ())))).bind (fun (v9 : (CellT × (Int × Unit))) =>
       ((g_ref08_Come (a.1, (a.2.1, ())))).bind (fun (v10 : (CellT × (Int × Unit))) =>
        bif ((!((v9.1.1 == v10.1.1) && ((v9.1.2.1 == v10.1.2.1) && ((v9.1.2.2.1 == v10.1.2.2.1) && ((v9.1.2.2.2.1 == v10.1.2.2.2.1) && true))))) || (v9.2.1 != v10.2.1)) then some false
        else ((g_cell_Go (a.1, (a.2.1, ())))).bind (fun (v11 : (CellT × (Int × Unit))) =>
         ((g_ref08_Go (a.1, (a.2.1, ())))).bind (fun (v12 : (CellT × (Int × Unit))) =>
          bif ((!((v11.1.1 == v12.1.1) && ((v11.1.2.1 == v12.1.2.1) && ((v11.1.2.2.1 == v12.1.2.2.1) && ((v11.1.2.2.2.1 == v12.1.2.2.2.1) && true))))) || (v11.2.1 != v12.2.1)) then some false
          else ((g_cell_Did (a.1, (a.2.2.1, (a.2.2.2.1, ()))))).bind (fun (v13 : (CellT × (Int × Unit))) =>
           ((g_ref08_Did (a.1, (a.2.2.1, (a.2.2.2.1, ()))))).bind (fun (v14 : (CellT × (Int × Unit))) =>
            (
             bif (((v13.1.1 == v14.1.1) && ((v13.1.2.1 == v14.1.2.1) && ((v13.1.2.2.1 == v14.1.2.2.1) && ((v13.1.2.2.2.1 == v14.1.2.2.2.1) && true)))) && (v13.2.1 == v14.2.1)) then ((g_cell_Covers a.2.2.2.2)).bind (fun (v15 : Bool) =>
               ((g_ref08_Covers a.2.2.2.2)).bind (fun (v16 : Bool) =>
                some (v15 == v16)))
             else some false).bind (fun (v17 : Bool) =>
             some v17))))))))))))
noncomputable def tc6 : TCn := ⟨[shCell, shOrder, (.int .i64), (.int .i64), shExpo, shExpo], [.bool], g_law08_CellRight⟩
noncomputable def T6 := (6, tc6) :: T36
theorem t6 : Tbl Try.prog T6 := Tbl.add t36 hn 6 6 tc6 (by kernel_rfl) (fun a => by kernel_rfl)
noncomputable def g_law08_CellBack (a : (CellT × (OrderT × (OrderT × Unit)))) : Option Bool :=
 ((g_law08_awake ())).bind (fun (v1 : Bool) =>
  bif (!v1) then some false
  else ((g_cell_Come (a.1, (a.2.1, ())))).bind (fun (v2 : (CellT × (Int × Unit))) =>
   bif (v2.2.1 != 0) then some ((v2.1.1 == a.1.1) && ((v2.1.2.1 == a.1.2.1) && ((v2.1.2.2.1 == a.1.2.2.1) && ((v2.1.2.2.2.1 == a.1.2.2.2.1) && true))))
   else ((g_cell_Go (v2.1, (a.2.1, ())))).bind (fun (v3 : (CellT × (Int × Unit))) =>
    ((g_cell_Of (a.1, ()))).bind (fun (v4 : (ExpoT × (Int × Unit))) =>
     ((g_cell_Of (v2.1, ()))).bind (fun (v5 : (ExpoT × (Int × Unit))) =>
      (
       bif ((((v3.2.1 != 0) || (!((v3.1.1 == a.1.1) && ((v3.1.2.1 == a.1.2.1) && ((v3.1.2.2.1 == a.1.2.2.1) && ((v3.1.2.2.2.1 == a.1.2.2.2.1) && true)))))) || (v4.2.1 != 0)) || (v5.2.1 != 0)) then some true
       else ((g_cell_Covers (v5.1, (v4.1, ())))).bind (fun (v6 : Bool) =>
        some (!v6))).bind (fun (v7 : Bool) =>
       (
        bif v7 then some true
        else ((g_cell_Right (v2.1, ()))).bind (fun (v8 : Bool) =>
         some (!v8))).bind (fun (v9 : Bool) =>
        bif v9 then some false
        else (
         bif (a.2.1.2.2.2.1 == 1) then (
           bif (v5.1.2.1 != v4.1.2.1) then some true
           else ((g_order_Open (a.2.1, ()))).bind (fun (v10 : Int) =>
            some ((IntKind.wrap .i64 (v5.1.1 - v4.1.1)) != v10))).bind (fun (v11 : Bool) =>
           some v11)
         else some false).bind (fun (v12 : Bool) =>
         (
          bif v12 then some true
          else (
           bif (a.2.1.2.2.2.1 == 2) then (
             bif (v5.1.1 != v4.1.1) then some true
             else ((g_order_Open (a.2.1, ()))).bind (fun (v13 : Int) =>
              some ((IntKind.wrap .i64 (v5.1.2.1 - v4.1.2.1)) != v13))).bind (fun (v14 : Bool) =>
             some v14)
           else some false).bind (fun (v15 : Bool) =>
           some v15)).bind (fun (v16 : Bool) =>
          bif v16 then some false
          else ((g_cell_Come (v2.1, a.2.2))).bind (fun (v17 : (CellT × (Int × Unit))) =>
           ((g_cell_Come (a.1, a.2.2))).bind (fun (v18 : (CellT × (Int × Unit))) =>
            bif ((v17.2.1 != 0) || (v18.2.1 != 0)) then some (v17.2.1 != 0)
            else ((g_cell_Come (v18.1, (a.2.1, ())))).bind (fun (v19 : (CellT × (Int × Unit))) =>
             some ((v19.2.1 == 0) && ((v19.1.1 == v17.1.1) && ((v19.1.2.1 == v17.1.2.1) && ((v19.1.2.2.1 == v17.1.2.2.1) && ((v19.1.2.2.2.1 == v17.1.2.2.2.1) && true)))))))))))))))))
noncomputable def tc7 : TCn := ⟨[shCell, shOrder, shOrder], [.bool], g_law08_CellBack⟩
noncomputable def T7 := (7, tc7) :: T6
theorem t7 : Tbl Try.prog T7 := Tbl.add t6 hn 6 7 tc7 (by kernel_rfl) (fun a => by kernel_rfl)
noncomputable def g_law08_CellCovers (a : (ExpoT × (ExpoT × (ExpoT × Unit)))) : Option Bool :=
 ((g_law08_awake ())).bind (fun (v1 : Bool) =>
  bif (!v1) then some false
  else ((g_cell_Covers (a.1, (a.1, ())))).bind (fun (v2 : Bool) =>
   (
    bif v2 then ((g_cell_Covers (a.1, (a.2.1, ())))).bind (fun (v3 : Bool) =>
      (
       bif (!v3) then some true
       else ((g_cell_Covers a.2)).bind (fun (v4 : Bool) =>
        some (!v4))).bind (fun (v5 : Bool) =>
       (
        bif v5 then some true
        else ((g_cell_Covers (a.1, a.2.2))).bind (fun (v6 : Bool) =>
         some v6)).bind (fun (v7 : Bool) =>
        some v7)))
    else some false).bind (fun (v8 : Bool) =>
    (
     bif v8 then ((g_cell_Covers (a.1, (a.2.1, ())))).bind (fun (v9 : Bool) =>
       (
        bif v9 then ((g_cell_Covers (a.2.1, (a.1, ())))).bind (fun (v10 : Bool) =>
          some v10)
        else some false).bind (fun (v11 : Bool) =>
        some (v11 == ((a.1.1 == a.2.1.1) && ((a.1.2.1 == a.2.1.2.1) && ((a.1.2.2.1 == a.2.1.2.2.1) && true))))))
     else some false).bind (fun (v12 : Bool) =>
     some v12))))
noncomputable def tc8 : TCn := ⟨[shExpo, shExpo, shExpo], [.bool], g_law08_CellCovers⟩
noncomputable def T8 := (8, tc8) :: T7
theorem t8 : Tbl Try.prog T8 := Tbl.add t7 hn 6 8 tc8 (by kernel_rfl) (fun a => by kernel_rfl)
noncomputable def g_rec_OfNote (a : (NoteT × Unit)) : Option RecT :=
 some (6, (a.1.2.2.1, (0, (0, (0, (a.1.2.2.2.1, (a.1.2.2.2.2.1, (0, (0, (0, (false, (a.1.1, (a.1.2.1, ())))))))))))))
noncomputable def tc66 : TCn := ⟨[shNote], [shRec], g_rec_OfNote⟩
noncomputable def T66 := (66, tc66) :: T8
theorem t66 : Tbl Try.prog T66 := Tbl.add t8 hn 6 66 tc66 (by kernel_rfl) (fun a => by kernel_rfl)
noncomputable def g_order_settled (a : (OrderT × Unit)) : Option OrderT :=
 some (a.1.1, (a.1.2.1, (a.1.2.2.1, (a.1.2.2.2.1, (a.1.2.2.2.2.1, (a.1.2.2.2.2.2.1, (a.1.2.2.2.2.2.2.1, (a.1.2.2.2.2.2.2.2.1, (0, (0, a.1.2.2.2.2.2.2.2.2.2.2))))))))))
noncomputable def tc85 : TCn := ⟨[shOrder], [shOrder], g_order_settled⟩
noncomputable def T85 := (85, tc85) :: T66
theorem t85 : Tbl Try.prog T85 := Tbl.add t66 hn 6 85 tc85 (by kernel_rfl) (fun a => by kernel_rfl)
noncomputable def g_order_done (a : (OrderT × Unit)) : Option OrderT :=
 ((g_order_settled ((a.1.1, (a.1.2.1, (a.1.2.2.1, (a.1.2.2.2.1, (a.1.2.2.2.2.1, (a.1.2.2.2.2.2.1, (a.1.2.2.2.2.2.2.1, (3, a.1.2.2.2.2.2.2.2.2)))))))), ()))).bind (fun (v1 : OrderT) =>
  some v1)
noncomputable def tc84 : TCn := ⟨[shOrder], [shOrder], g_order_done⟩
noncomputable def T84 := (84, tc84) :: T85
theorem t84 : Tbl Try.prog T84 := Tbl.add t85 hn 6 84 tc84 (by kernel_rfl) (fun a => by kernel_rfl)
noncomputable def g_order_sent (a : (OrderT × (NoteT × Unit))) : Option (OrderT × (Bool × Unit)) :=
 bif (a.2.1.2.1 == 1) then some ((a.1.1, (a.1.2.1, (a.1.2.2.1, (a.1.2.2.2.1, (a.1.2.2.2.2.1, (a.1.2.2.2.2.2.1, (a.1.2.2.2.2.2.2.1, (2, a.1.2.2.2.2.2.2.2.2)))))))), (true, ()))
 else bif (a.2.1.2.1 == 2) then ((g_order_done (a.1, ()))).bind (fun (v1 : OrderT) =>
   some (v1, (true, ())))
 else some (a.1, (false, ()))
noncomputable def tc67 : TCn := ⟨[shOrder, shNote], [shOrder, .bool], g_order_sent⟩
noncomputable def T67 := (67, tc67) :: T84
theorem t67 : Tbl Try.prog T67 := Tbl.add t84 hn 6 67 tc67 (by kernel_rfl) (fun a => by kernel_rfl)
noncomputable def g_order_live (a : (OrderT × (NoteT × Unit))) : Option (OrderT × (Bool × Unit)) :=
 (
  (
   bif (a.2.1.2.1 == 3) then bif (decide (a.2.1.2.2.2.1 > (IntKind.wrap .i64 (a.1.2.2.2.2.1 - a.1.2.2.2.2.2.2.1)))) then ((some (a.1, (false, ()))).map .inr).map .inr
    else bif (decide ((IntKind.wrap .i64 (a.1.2.2.2.2.2.2.1 + a.2.1.2.2.2.1)) < a.1.2.2.2.2.1)) then ((some ((a.1.1, (a.1.2.1, (a.1.2.2.1, (a.1.2.2.2.1, (a.1.2.2.2.2.1, (a.1.2.2.2.2.2.1, ((IntKind.wrap .i64 (a.1.2.2.2.2.2.2.1 + a.2.1.2.2.2.1)), a.1.2.2.2.2.2.2.2))))))), (true, ()))).map .inr).map .inr
    else some (.inl (a.1.1, (a.1.2.1, (a.1.2.2.1, (a.1.2.2.2.1, (a.1.2.2.2.2.1, (a.1.2.2.2.2.2.1, ((IntKind.wrap .i64 (a.1.2.2.2.2.2.2.1 + a.2.1.2.2.2.1)), (a.1.2.2.2.2.2.2.2.1, (a.1.2.2.2.2.2.2.2.2.1, (a.1.2.2.2.2.2.2.2.2.2.1, (a.1.2.2.2.2.2.2.2.2.2.2.1, (a.1.2.2.2.2.2.2.2.2.2.2.2.1, (0, (0, (0, (0, (0, (0, (0, (0, (0, (0, (0, (false, ())))))))))))))))))))))))))
   else bif (a.2.1.2.1 == 4) then some (.inl (a.1.1, (a.1.2.1, (a.1.2.2.1, (a.1.2.2.2.1, (a.1.2.2.2.2.1, (a.1.2.2.2.2.2.1, (a.1.2.2.2.2.2.2.1, (a.1.2.2.2.2.2.2.2.1, (a.1.2.2.2.2.2.2.2.2.1, (a.1.2.2.2.2.2.2.2.2.2.1, (a.1.2.2.2.2.2.2.2.2.2.2.1, (a.1.2.2.2.2.2.2.2.2.2.2.2.1, (0, (0, (0, (0, (0, (0, (0, (0, (0, (0, (0, (false, ())))))))))))))))))))))))))
   else bif (a.2.1.2.1 == 5) then (((g_order_pending (a.1, ()))).bind (fun (v1 : Bool) =>
     bif ((((!v1) || (a.2.1.2.2.2.1 != a.1.2.2.2.2.2.2.2.2.1)) || (a.2.1.2.2.2.2.1 != a.1.2.2.2.2.2.2.2.2.2.1)) || (decide (a.2.1.2.2.2.1 ≤ a.1.2.2.2.2.2.2.1))) then (some (a.1, (false, ()))).map .inr
     else ((g_order_settled ((a.1.1, (a.1.2.1, (a.1.2.2.1, (a.1.2.2.2.1, (a.2.1.2.2.2.1, (a.2.1.2.2.2.2.1, a.1.2.2.2.2.2.2)))))), ()))).bind (fun (v2 : OrderT) =>
      (some (v2, (true, ()))).map .inr))).map .inr
   else bif (a.2.1.2.1 == 6) then (((g_order_settled (a.1, ()))).bind (fun (v3 : OrderT) =>
     ((g_order_pending (a.1, ()))).bind (fun (v4 : Bool) =>
      (some (v3, (v4, ()))).map .inr))).map .inr
   else (some (.inl (a.1.1, (a.1.2.1, (a.1.2.2.1, (a.1.2.2.2.1, (a.1.2.2.2.2.1, (a.1.2.2.2.2.2.1, (a.1.2.2.2.2.2.2.1, (a.1.2.2.2.2.2.2.2.1, (a.1.2.2.2.2.2.2.2.2.1, (a.1.2.2.2.2.2.2.2.2.2.1, (a.1.2.2.2.2.2.2.2.2.2.2.1, (a.1.2.2.2.2.2.2.2.2.2.2.2.1, (0, (0, (0, (0, (0, (0, (0, (0, (0, (0, (0, (false, ())))))))))))))))))))))))))).map .inr).bind (eX (fun (v5 : (Int × (Int × (Int × (Int × (Int × (Int × (Int × (Int × (Int × (Int × (Int × (Bool × OrderT))))))))))))) =>
   ((g_order_done ((v5.1, (v5.2.1, (v5.2.2.1, (v5.2.2.2.1, (v5.2.2.2.2.1, (v5.2.2.2.2.2.1, (v5.2.2.2.2.2.2.1, (v5.2.2.2.2.2.2.2.1, (v5.2.2.2.2.2.2.2.2.1, (v5.2.2.2.2.2.2.2.2.2.1, (v5.2.2.2.2.2.2.2.2.2.2.1, (v5.2.2.2.2.2.2.2.2.2.2.2.1, ())))))))))))), ()))).bind (fun (v6 : OrderT) =>
    (some (v6, (true, ()))).map .inr)))).bind (eX (fun (v7 : (Int × (Int × (Int × (Int × (Int × (Int × (Int × (Int × (Int × (Int × (Int × (Bool × OrderT))))))))))))) =>
  some ((v7.1, (v7.2.1, (v7.2.2.1, (v7.2.2.2.1, (v7.2.2.2.2.1, (v7.2.2.2.2.2.1, (v7.2.2.2.2.2.2.1, (v7.2.2.2.2.2.2.2.1, (v7.2.2.2.2.2.2.2.2.1, (v7.2.2.2.2.2.2.2.2.2.1, (v7.2.2.2.2.2.2.2.2.2.2.1, (v7.2.2.2.2.2.2.2.2.2.2.2.1, ())))))))))))), (false, ()))))
noncomputable def tc68 : TCn := ⟨[shOrder, shNote], [shOrder, .bool], g_order_live⟩
noncomputable def T68 := (68, tc68) :: T67
theorem t68 : Tbl Try.prog T68 := Tbl.add t67 hn 6 68 tc68 (by kernel_rfl) (fun a => by kernel_rfl)
noncomputable def g_order_Take (a : (OrderT × (NoteT × Unit))) : Option (OrderT × (Int × Unit)) :=
 ((g_order_Right (a.1, ()))).bind (fun (v1 : Bool) =>
  (
   bif (!v1) then some true
   else ((g_rec_OfNote a.2)).bind (fun (v2 : RecT) =>
    ((g_rec_Right (v2, ()))).bind (fun (v3 : Bool) =>
     some (!v3)))).bind (fun (v4 : Bool) =>
   bif (v4 || (a.2.1.2.2.1 != a.1.1)) then some (a.1, (1, ()))
   else (
    bif (a.1.2.2.2.2.2.2.2.1 == 1) then ((g_order_sent a)).bind (fun (v5 : (OrderT × (Bool × Unit))) =>
      some (v5.2.1, v5.1))
    else (
     bif (a.1.2.2.2.2.2.2.2.1 == 2) then ((g_order_live a)).bind (fun (v6 : (OrderT × (Bool × Unit))) =>
       some (v6.2.1, v6.1))
     else some (false, a.1)).bind (fun (v7 : (Bool × OrderT)) =>
     some v7)).bind (fun (v8 : (Bool × OrderT)) =>
    bif (!v8.1) then some (a.1, (8, ()))
    else some (v8.2, (0, ())))))
noncomputable def tc38 : TCn := ⟨[shOrder, shNote], [shOrder, (.int .i64)], g_order_Take⟩
noncomputable def T38 := (38, tc38) :: T68
theorem t38 : Tbl Try.prog T38 := Tbl.add t68 hn 6 38 tc38 (by kernel_rfl) (fun a => by kernel_rfl)
noncomputable def g_law08_CellDone (a : (CellT × (OrderT × (Int × (Int × Unit))))) : Option Bool :=
 ((g_law08_awake ())).bind (fun (v1 : Bool) =>
  bif (!v1) then some false
  else ((g_cell_Come (a.1, (a.2.1, ())))).bind (fun (v2 : (CellT × (Int × Unit))) =>
   bif ((((v2.2.1 != 0) || (a.2.1.2.2.2.2.2.2.2.1 != 2)) || (decide (a.2.2.2.1 < 1))) || (decide (a.2.2.2.1 > 1000))) then some true
   else ((g_order_Take (a.2.1, ((a.2.2.2.1, (3, (a.2.1.1, (a.2.2.1, (0, ()))))), ())))).bind (fun (v3 : (OrderT × (Int × Unit))) =>
    bif (v3.2.1 != 0) then some true
    else ((g_cell_Go (v2.1, (a.2.1, ())))).bind (fun (v4 : (CellT × (Int × Unit))) =>
     ((g_cell_Of (v2.1, ()))).bind (fun (v5 : (ExpoT × (Int × Unit))) =>
      bif (((v4.2.1 != 0) || (v5.2.1 != 0)) || (!((v4.1.1 == a.1.1) && ((v4.1.2.1 == a.1.2.1) && ((v4.1.2.2.1 == a.1.2.2.1) && ((v4.1.2.2.2.1 == a.1.2.2.2.1) && true)))))) then some false
      else ((g_cell_Come (v4.1, (v3.1, ())))).bind (fun (v6 : (CellT × (Int × Unit))) =>
       ((g_cell_Did (v6.1, (a.2.1.2.2.2.1, (a.2.2.1, ()))))).bind (fun (v7 : (CellT × (Int × Unit))) =>
        (
         bif ((v6.2.1 != 0) || (v7.2.1 != 0)) then ((g_cell_Did (v4.1, (a.2.1.2.2.2.1, (a.2.2.1, ()))))).bind (fun (v8 : (CellT × (Int × Unit))) =>
           ((g_cell_Come (v8.1, (v3.1, ())))).bind (fun (v9 : (CellT × (Int × Unit))) =>
            some (v8.2.1, (v9.2.1, (v8.1.1, (v8.1.2.1, (v8.1.2.2.1, (v8.1.2.2.2.1, v9.1))))))))
         else some (v6.2.1, (v7.2.1, (v6.1.1, (v6.1.2.1, (v6.1.2.2.1, (v6.1.2.2.2.1, v7.1))))))).bind (fun (v10 : (Int × (Int × (Int × (Int × (Int × NoteT)))))) =>
         ((g_cell_Of (v10.2.2.2.2.2.2, ()))).bind (fun (v11 : (ExpoT × (Int × Unit))) =>
          (
           bif (((v10.1 == 0) && (v10.2.1 == 0)) && (v11.2.1 == 0)) then ((g_cell_Covers (v5.1, (v11.1, ())))).bind (fun (v12 : Bool) =>
             some v12)
           else some false).bind (fun (v13 : Bool) =>
           some (v13 && (decide (v10.2.2.2.2.2.2.2.2.2.1 ≤ v2.1.2.2.2.1)))))))))))))
noncomputable def tc9 : TCn := ⟨[shCell, shOrder, (.int .i64), (.int .i64)], [.bool], g_law08_CellDone⟩
noncomputable def T9 := (9, tc9) :: T38
theorem t9 : Tbl Try.prog T9 := Tbl.add t38 hn 6 9 tc9 (by kernel_rfl) (fun a => by kernel_rfl)
end Go.AI
