/- What Go functions come to, as functions of data with a kind; printed by a program, with the proof that the given functions answer just that. -/
import Derived.Test.YthmgondhniecnaaLE
import Derived.Test.YthmgondhniecnaaProg
namespace Go.AI
open Go.Proofs
set_option linter.unusedVariables false
abbrev NextT := (Int × (Int × Unit))
abbrev shNext : Sh := (.cons (.int .i64) (.cons (.int .i64) .nil))
abbrev NoteT := (Int × (Int × (Int × NextT)))
abbrev shNote : Sh := (.cons (.int .i64) (.cons (.int .i64) (.cons (.int .i64) shNext)))
abbrev FrameT := (Int × (Int × (Int × ((Int × NoteT) × Unit))))
abbrev shFrame : Sh := (.cons (.int .i64) (.cons (.int .i64) (.cons (.int .i64) (.cons (.cons (.int .i64) shNote) .nil))))
abbrev RecT := (Int × (Int × (Int × (Int × (Int × (Int × (Int × (Int × (Int × (Int × (Bool × NextT)))))))))))
abbrev shRec : Sh := (.cons (.int .i64) (.cons (.int .i64) (.cons (.int .i64) (.cons (.int .i64) (.cons (.int .i64) (.cons (.int .i64) (.cons (.int .i64) (.cons (.int .i64) (.cons (.int .i64) (.cons (.int .i64) (.cons .bool shNext)))))))))))
def hnL : List (Nat × List (Nat × Hint)) := [(55, [(0, .j [⟨.t 0, [.v (.int .u32)]⟩]), (1, .j [⟨.t 0, [.v (.int .u32)]⟩, ⟨.t 4, [.v (.int .i64)]⟩]), (4, .j [⟨.t 0, [.v (.int .u32)]⟩])]),
 (53, [(0, .j [⟨.t 5, [.v (.int .u32)]⟩]), (1, .j [⟨.t 5, [.v (.int .u32)]⟩, ⟨.t 12, [.v (.int .i64)]⟩])]),
 (54, [(0, .j [⟨.t 5, [.v (.int .u32)]⟩]), (1, .j [⟨.t 5, [.v (.int .u32)]⟩, ⟨.t 6, [.v (.int .i64)]⟩]), (4, .j [⟨.t 5, [.v (.int .u32)]⟩]), (5, .j [⟨.t 5, [.v (.int .u32)]⟩, ⟨.t 7, [.v (.int .i64)]⟩]), (8, .j [⟨.t 5, [.v (.int .u32)]⟩])]),
 (17, [(1, .u 9)]),
 (19, [(3, .u 9)]),
 (15, [(2, .u 9)]),
 (18, [(1, .j [⟨.t 7, [.v .bool]⟩]), (2, .j [⟨.t 7, [.v .bool]⟩, ⟨.t 25, [.v (.int .i64)]⟩]), (9, .u 9)]),
 (4, [(2, .j [])]),
 (5, [(2, .j [⟨.t 15, [.v .bool]⟩, ⟨.t 14, [.r (.int .u8)]⟩]), (3, .u 5)]),
 (29, [(1, .j [⟨.t 4, [.v .bool]⟩, ⟨.b 3 [], [.v (.int .i64), .v (.int .i64), .v (.int .i64), .v (.int .i64), .v (.int .i64), .v (.int .i64), .v (.int .i64), .v (.int .i64), .v (.int .i64), .v (.int .i64), .v .bool, .v (.int .i64), .v (.int .i64)]⟩]), (2, .j [⟨.t 4, [.v .bool]⟩, ⟨.b 3 [], [.v (.int .i64), .v (.int .i64), .v (.int .i64), .v (.int .i64), .v (.int .i64), .v (.int .i64), .v (.int .i64), .v (.int .i64), .v (.int .i64), .v (.int .i64), .v .bool, .v (.int .i64), .v (.int .i64)]⟩]), (3, .j [⟨.t 4, [.v .bool]⟩, ⟨.b 3 [], [.v (.int .i64), .v (.int .i64), .v (.int .i64), .v (.int .i64), .v (.int .i64), .v (.int .i64), .v (.int .i64), .v (.int .i64), .v (.int .i64), .v (.int .i64), .v .bool, .v (.int .i64), .v (.int .i64)]⟩]), (4, .j [⟨.t 4, [.v .bool]⟩, ⟨.b 3 [], [.v (.int .i64), .v (.int .i64), .v (.int .i64), .v (.int .i64), .v (.int .i64), .v (.int .i64), .v (.int .i64), .v (.int .i64), .v (.int .i64), .v (.int .i64), .v .bool, .v (.int .i64), .v (.int .i64)]⟩]), (5, .j [⟨.t 4, [.v .bool]⟩]), (6, .j [⟨.t 4, [.v .bool]⟩, ⟨.b 3 [], [.v (.int .i64), .v (.int .i64), .v (.int .i64), .v (.int .i64), .v (.int .i64), .v (.int .i64), .v (.int .i64), .v (.int .i64), .v (.int .i64), .v (.int .i64), .v .bool, .v (.int .i64), .v (.int .i64)]⟩]), (7, .j [⟨.t 4, [.v .bool]⟩, ⟨.b 3 [], [.v (.int .i64), .v (.int .i64), .v (.int .i64), .v (.int .i64), .v (.int .i64), .v (.int .i64), .v (.int .i64), .v (.int .i64), .v (.int .i64), .v (.int .i64), .v .bool, .v (.int .i64), .v (.int .i64)]⟩]), (8, .j [⟨.t 4, [.v .bool]⟩, ⟨.b 3 [], [.v (.int .i64), .v (.int .i64), .v (.int .i64), .v (.int .i64), .v (.int .i64), .v (.int .i64), .v (.int .i64), .v (.int .i64), .v (.int .i64), .v (.int .i64), .v .bool, .v (.int .i64), .v (.int .i64)]⟩]), (9, .j [⟨.t 4, [.v .bool]⟩, ⟨.b 3 [], [.v (.int .i64), .v (.int .i64), .v (.int .i64), .v (.int .i64), .v (.int .i64), .v (.int .i64), .v (.int .i64), .v (.int .i64), .v (.int .i64), .v (.int .i64), .v .bool, .v (.int .i64), .v (.int .i64)]⟩])]),
 (48, [(0, .j [⟨.b 3 [], [.v (.int .i64), .v (.int .i64), .v (.int .i64), .v (.int .i64), .v (.int .i64), .v (.int .i64), .v (.int .i64), .v (.int .i64), .v (.int .i64), .v (.int .i64), .v .bool, .v (.int .i64), .v (.int .i64)]⟩]), (4, .j [⟨.b 3 [], [.v (.int .i64), .v (.int .i64), .v (.int .i64), .v (.int .i64), .v (.int .i64), .v (.int .i64), .v (.int .i64), .v (.int .i64), .v (.int .i64), .v (.int .i64), .v .bool, .v (.int .i64), .v (.int .i64)]⟩]), (5, .j [⟨.b 3 [], [.v (.int .i64), .v (.int .i64), .v (.int .i64), .v (.int .i64), .v (.int .i64), .v (.int .i64), .v (.int .i64), .v (.int .i64), .v (.int .i64), .v (.int .i64), .v .bool, .v (.int .i64), .v (.int .i64)]⟩])]),
 (52, [(4, .j [⟨.t 33, [.v .bool]⟩]), (5, .j [⟨.t 33, [.v .bool]⟩]), (6, .j [⟨.t 33, [.v .bool]⟩])]),
 (36, [(1, .j [⟨.b 6 [], [.v (.int .i64), .v (.int .i64), .v (.int .i64), .v (.int .i64), .v (.int .i64), .v (.int .i64), .v (.int .i64), .v (.int .i64), .v (.int .i64), .v (.int .i64), .v .bool, .v (.int .i64), .v (.int .i64)]⟩]), (2, .j [⟨.t 32, [.v .bool]⟩]), (3, .j [⟨.b 6 [], [.v (.int .i64), .v (.int .i64), .v (.int .i64), .v (.int .i64), .v (.int .i64), .v (.int .i64), .v (.int .i64), .v (.int .i64), .v (.int .i64), .v (.int .i64), .v .bool, .v (.int .i64), .v (.int .i64)]⟩]), (4, .j [⟨.b 6 [], [.v (.int .i64), .v (.int .i64), .v (.int .i64), .v (.int .i64), .v (.int .i64), .v (.int .i64), .v (.int .i64), .v (.int .i64), .v (.int .i64), .v (.int .i64), .v .bool, .v (.int .i64), .v (.int .i64)]⟩]), (5, .j [⟨.b 6 [], [.v (.int .i64), .v (.int .i64), .v (.int .i64), .v (.int .i64), .v (.int .i64), .v (.int .i64), .v (.int .i64), .v (.int .i64), .v (.int .i64), .v (.int .i64), .v .bool, .v (.int .i64), .v (.int .i64)]⟩]), (6, .j [⟨.b 6 [], [.v (.int .i64), .v (.int .i64), .v (.int .i64), .v (.int .i64), .v (.int .i64), .v (.int .i64), .v (.int .i64), .v (.int .i64), .v (.int .i64), .v (.int .i64), .v .bool, .v (.int .i64), .v (.int .i64)]⟩])]),
 (37, [(9, .u 8)]),
 (10, [(2, .j [])]),
 (11, [(3, .j [⟨.t 21, [.v .bool]⟩]), (4, .j [⟨.t 21, [.v .bool]⟩]), (5, .j [⟨.b 5 [], [.v (.int .i64), .v (.int .i64), .v (.int .i64), .v (.int .i64), .v (.int .i64), .v (.int .i64), .v (.int .i64), .v (.int .i64), .v (.int .i64), .v (.int .i64), .v .bool, .v (.int .i64), .v (.int .i64)]⟩]), (6, .j [⟨.b 5 [], [.v (.int .i64), .v (.int .i64), .v (.int .i64), .v (.int .i64), .v (.int .i64), .v (.int .i64), .v (.int .i64), .v (.int .i64), .v (.int .i64), .v (.int .i64), .v .bool, .v (.int .i64), .v (.int .i64)]⟩]), (7, .j [⟨.b 5 [], [.v (.int .i64), .v (.int .i64), .v (.int .i64), .v (.int .i64), .v (.int .i64), .v (.int .i64), .v (.int .i64), .v (.int .i64), .v (.int .i64), .v (.int .i64), .v .bool, .v (.int .i64), .v (.int .i64)]⟩])]),
 (12, [(1, .j [])]),
 (21, [(0, .j [⟨.t 4, [.r (.int .u8)]⟩]), (1, .j [⟨.t 4, [.r (.int .u8)]⟩, ⟨.t 11, [.v (.int .i64)]⟩])]),
 (22, [(0, .j [⟨.t 3, [.r (.int .u8)]⟩]), (1, .j [⟨.t 3, [.r (.int .u8)]⟩, ⟨.t 4, [.v (.int .i64)]⟩])]),
 (23, [(0, .j [⟨.t 9, [.r shFrame]⟩, ⟨.t 10, [.v (.int .i64)]⟩, ⟨.b 8 [], [.v (.int .i64), .v (.int .i64)]⟩]), (1, .j [⟨.t 9, [.r shFrame]⟩, ⟨.t 10, [.v (.int .i64)]⟩, ⟨.b 8 [], [.v (.int .i64), .v (.int .i64)]⟩])]),
 (25, [(0, .j [⟨.b 7 [], [.v (.int .i64), .v (.int .i64)]⟩]), (1, .j [⟨.t 15, [.v (.int .i64)]⟩, ⟨.b 7 [], [.v (.int .i64), .v (.int .i64)]⟩])]),
 (26, [(0, .j []), (1, .j [⟨.t 7, [.v (.int .i64)]⟩])]),
 (24, [(0, .j [⟨.t 8, [.r shFrame]⟩]), (1, .j [⟨.t 8, [.r shFrame]⟩, ⟨.t 9, [.v (.int .i64)]⟩])]),
 (27, [(1, .j []), (2, .j [⟨.t 5, [.v (.int .i64)]⟩])]),
 (6, [(2, .j [⟨.t 9, [.v .bool]⟩]), (3, .j [⟨.t 9, [.v .bool]⟩, ⟨.t 10, [.v (.int .i64)]⟩])]),
 (8, [(3, .j [⟨.t 14, [.v (.int .i64)]⟩]), (4, .u 5), (7, .j [⟨.t 14, [.v (.int .i64)]⟩]), (8, .j [⟨.t 16, [.r (.int .u8)]⟩]), (9, .u 5)]),
 (9, [(2, .j [⟨.b 9 [], [.v (.int .i64), .v (.int .i64), .v (.int .i64), .v (.int .i64), .v (.int .i64), .v (.int .i64), .v (.int .i64), .v (.int .i64), .v (.int .i64)]⟩])]),
 (44, [(0, .j [⟨.t 5, [.v (.int .u64)]⟩]), (1, .j [⟨.t 5, [.v (.int .u64)]⟩, ⟨.t 14, [.v (.int .i64)]⟩])]),
 (39, [(0, .j [⟨.b 0 [], [.r (.int .u8)]⟩]), (1, .j [⟨.t 6, [.v (.int .i64)]⟩, ⟨.b 0 [], [.r (.int .u8)]⟩])])]
def hnOf : List (Nat × List (Nat × Hint)) → Nat → List (Nat × Hint)
  | [], _ => []
  | (k, x) :: l, f => match Nat.beq k f with
    | true => x
    | false => hnOf l f
def hn : FuncId → List (Nat × Hint) := fun f => hnOf hnL f
noncomputable def g_frame_Right (a : (FrameT × Unit)) : Option Bool :=
 some ((((((decide (a.1.1 ≥ 1)) && (decide (a.1.1 ≤ 1000000))) && (decide (a.1.2.1 ≥ 1))) && (decide (a.1.2.1 ≤ 1000000000))) && (decide (a.1.2.2.1 ≥ 1))) && (decide (a.1.2.2.1 ≤ 6)))
noncomputable def tc16 : TCn := ⟨[shFrame], [.bool], g_frame_Right⟩
noncomputable def T16 := (16, tc16) :: ([] : List (FuncId × TCn))
theorem t16 : Tbl Try.prog T16 := Tbl.add .nil hn 5 16 tc16 (by kernel_rfl) (fun a => by kernel_rfl)
noncomputable def g_ref04_Right (a : (FrameT × Unit)) : Option Bool :=
 some ((((((decide (a.1.1 > 0)) && (decide (a.1.1 ≤ 1000000))) && (decide (a.1.2.1 > 0))) && (decide (a.1.2.1 ≤ 1000000000))) && (decide (a.1.2.2.1 > 0))) && (decide (a.1.2.2.1 < 7)))
noncomputable def tc14 : TCn := ⟨[shFrame], [.bool], g_ref04_Right⟩
noncomputable def T14 := (14, tc14) :: T16
theorem t14 : Tbl Try.prog T14 := Tbl.add t16 hn 5 14 tc14 (by kernel_rfl) (fun a => by kernel_rfl)
noncomputable def g_crc_step (a : (Int × Unit)) : Option Int :=
 (
  loopO (fun (v1 : NextT) =>
   bif (decide (v1.2.1 < 4)) then (
     bif ((Go.bits Go.BinOp.and Go.IntKind.u32 v1.1 1) == 1) then some ((Go.bits Go.BinOp.xor Go.IntKind.u32 (Int.fdiv v1.1 (2 ^ 1)) 3988292384), ())
     else some ((Int.fdiv v1.1 (2 ^ 1)), ())).bind (fun (v2 : (Int × Unit)) =>
     some (.inl (v2.1, ((IntKind.wrap .i64 (v1.2.1 + 1)), ()))))
   else (some (v1.1, ())).map .inr) (a.1, (0, ()))).bind (fun (v3 : (Int × Unit)) =>
  some v3.1)
noncomputable def tc55 : TCn := ⟨[(.int .u32)], [(.int .u32)], g_crc_step⟩
noncomputable def T55 := (55, tc55) :: T14
theorem t55 : Tbl Try.prog T55 := Tbl.add t14 hn 5 55 tc55 (by kernel_rfl) (fun a => by kernel_rfl)
noncomputable def g_crc_More (a : (Int × ((List Int) × Unit))) : Option Int :=
 (
  loopO (fun (v1 : NextT) =>
   bif (decide (v1.2.1 < (a.2.1.length : Int))) then ((getI a.2.1 v1.2.1)).bind (fun (v2 : Int) =>
     ((g_crc_step ((Go.bits Go.BinOp.and Go.IntKind.u32 (Go.bits Go.BinOp.xor Go.IntKind.u32 v1.1 (IntKind.wrap .u32 v2)) 15), ()))).bind (fun (v3 : Int) =>
      ((g_crc_step ((Go.bits Go.BinOp.and Go.IntKind.u32 (Go.bits Go.BinOp.xor Go.IntKind.u32 v3 (Int.fdiv (Go.bits Go.BinOp.xor Go.IntKind.u32 v1.1 (IntKind.wrap .u32 v2)) (2 ^ 4))) 15), ()))).bind (fun (v4 : Int) =>
       some (.inl ((Go.bits Go.BinOp.xor Go.IntKind.u32 v4 (Int.fdiv (Go.bits Go.BinOp.xor Go.IntKind.u32 v3 (Int.fdiv (Go.bits Go.BinOp.xor Go.IntKind.u32 v1.1 (IntKind.wrap .u32 v2)) (2 ^ 4))) (2 ^ 4))), ((IntKind.wrap .i64 (v1.2.1 + 1)), ()))))))
   else (some (v1.1, ())).map .inr) ((Go.bits Go.BinOp.xor Go.IntKind.u32 (if ((Go.IntKind.signed Go.IntKind.u32) = true) then (-1) else (Go.IntKind.max Go.IntKind.u32)) a.1), (0, ()))).bind (fun (v5 : (Int × Unit)) =>
  some (Go.bits Go.BinOp.xor Go.IntKind.u32 (if ((Go.IntKind.signed Go.IntKind.u32) = true) then (-1) else (Go.IntKind.max Go.IntKind.u32)) v5.1))
noncomputable def tc53 : TCn := ⟨[(.int .u32), (.slice 1 (.int .u8))], [(.int .u32)], g_crc_More⟩
noncomputable def T53 := (53, tc53) :: T55
theorem t53 : Tbl Try.prog T53 := Tbl.add t55 hn 5 53 tc53 (by kernel_rfl) (fun a => by kernel_rfl)
noncomputable def g_crc_Sum (a : ((List Int) × Unit)) : Option Int :=
 ((g_crc_More (0, a))).bind (fun (v1 : Int) =>
  some v1)
noncomputable def tc40 : TCn := ⟨[(.slice 1 (.int .u8))], [(.int .u32)], g_crc_Sum⟩
noncomputable def T40 := (40, tc40) :: T53
theorem t40 : Tbl Try.prog T40 := Tbl.add t53 hn 5 40 tc40 (by kernel_rfl) (fun a => by kernel_rfl)
noncomputable def g_ref02_More (a : (Int × ((List Int) × Unit))) : Option Int :=
 (
  loopO (fun (v1 : NextT) =>
   bif (decide (v1.2.1 < (a.2.1.length : Int))) then ((getI a.2.1 v1.2.1)).bind (fun (v2 : Int) =>
     (
      loopO (fun (v3 : NextT) =>
       bif (decide (v3.2.1 < 8)) then (
         bif ((Int.tmod v3.1 2) == 1) then some ((Go.bits Go.BinOp.xor Go.IntKind.u32 (IntKind.wrap .u32 (Int.tdiv v3.1 2)) 3988292384), ())
         else some ((IntKind.wrap .u32 (Int.tdiv v3.1 2)), ())).bind (fun (v4 : (Int × Unit)) =>
         some (.inl (v4.1, ((IntKind.wrap .i64 (v3.2.1 + 1)), ()))))
       else (some (v3.1, ())).map .inr) ((Go.bits Go.BinOp.xor Go.IntKind.u32 v1.1 (IntKind.wrap .u32 v2)), (0, ()))).bind (fun (v5 : (Int × Unit)) =>
      some (.inl (v5.1, ((IntKind.wrap .i64 (v1.2.1 + 1)), ())))))
   else (some (v1.1, ())).map .inr) ((Go.bits Go.BinOp.xor Go.IntKind.u32 a.1 4294967295), (0, ()))).bind (fun (v6 : (Int × Unit)) =>
  some (Go.bits Go.BinOp.xor Go.IntKind.u32 v6.1 4294967295))
noncomputable def tc54 : TCn := ⟨[(.int .u32), (.slice 1 (.int .u8))], [(.int .u32)], g_ref02_More⟩
noncomputable def T54 := (54, tc54) :: T40
theorem t54 : Tbl Try.prog T54 := Tbl.add t40 hn 5 54 tc54 (by kernel_rfl) (fun a => by kernel_rfl)
noncomputable def g_ref02_Sum (a : ((List Int) × Unit)) : Option Int :=
 ((g_ref02_More (0, a))).bind (fun (v1 : Int) =>
  some v1)
noncomputable def tc43 : TCn := ⟨[(.slice 1 (.int .u8))], [(.int .u32)], g_ref02_Sum⟩
noncomputable def T43 := (43, tc43) :: T54
theorem t43 : Tbl Try.prog T43 := Tbl.add t54 hn 5 43 tc43 (by kernel_rfl) (fun a => by kernel_rfl)
noncomputable def g_ref04_eight (a : (Int × Unit)) : Option (List Int) :=
 ((appX ((IntKind.wrap .u8 (Int.fdiv (Int.fdiv (IntKind.wrap .u64 a.1) (2 ^ 32)) (2 ^ 24))) :: ((IntKind.wrap .u8 (Int.fdiv (Int.fdiv (IntKind.wrap .u64 a.1) (2 ^ 32)) (2 ^ 16))) :: ((IntKind.wrap .u8 (Int.fdiv (Int.fdiv (IntKind.wrap .u64 a.1) (2 ^ 32)) (2 ^ 8))) :: ((IntKind.wrap .u8 (Int.fdiv (IntKind.wrap .u64 a.1) (2 ^ 32))) :: [])))) ((IntKind.wrap .u8 (Int.fdiv (IntKind.wrap .u64 a.1) (2 ^ 24))) :: ((IntKind.wrap .u8 (Int.fdiv (IntKind.wrap .u64 a.1) (2 ^ 16))) :: ((IntKind.wrap .u8 (Int.fdiv (IntKind.wrap .u64 a.1) (2 ^ 8))) :: ((IntKind.wrap .u8 (IntKind.wrap .u64 a.1)) :: [])))) 1)).bind (fun (v1 : (List Int)) =>
  some v1)
noncomputable def tc42 : TCn := ⟨[(.int .i64)], [(.slice 1 (.int .u8))], g_ref04_eight⟩
noncomputable def T42 := (42, tc42) :: T43
theorem t42 : Tbl Try.prog T42 := Tbl.add t43 hn 5 42 tc42 (by kernel_rfl) (fun a => by kernel_rfl)
noncomputable def g_ref04_Encode (a : (FrameT × Unit)) : Option (List Int) :=
 ((appX (0 :: (0 :: (0 :: (72 :: [])))) ((IntKind.wrap .u8 (Int.fdiv (IntKind.wrap .u64 a.1.1) (2 ^ 24))) :: ((IntKind.wrap .u8 (Int.fdiv (IntKind.wrap .u64 a.1.1) (2 ^ 16))) :: ((IntKind.wrap .u8 (Int.fdiv (IntKind.wrap .u64 a.1.1) (2 ^ 8))) :: ((IntKind.wrap .u8 (IntKind.wrap .u64 a.1.1)) :: [])))) 1)).bind (fun (v1 : (List Int)) =>
  ((g_ref04_eight (a.1.2.1, ()))).bind (fun (v2 : (List Int)) =>
   ((appX v1 v2 1)).bind (fun (v3 : (List Int)) =>
    ((appX v3 ((IntKind.wrap .u8 (Int.fdiv (IntKind.wrap .u64 a.1.2.2.1) (2 ^ 24))) :: ((IntKind.wrap .u8 (Int.fdiv (IntKind.wrap .u64 a.1.2.2.1) (2 ^ 16))) :: ((IntKind.wrap .u8 (Int.fdiv (IntKind.wrap .u64 a.1.2.2.1) (2 ^ 8))) :: ((IntKind.wrap .u8 (IntKind.wrap .u64 a.1.2.2.1)) :: [])))) 1)).bind (fun (v4 : (List Int)) =>
     ((g_ref04_eight (a.1.2.2.2.1.1, ()))).bind (fun (v5 : (List Int)) =>
      ((appX v4 v5 1)).bind (fun (v6 : (List Int)) =>
       ((g_ref04_eight (a.1.2.2.2.1.2.1, ()))).bind (fun (v7 : (List Int)) =>
        ((appX v6 v7 1)).bind (fun (v8 : (List Int)) =>
         ((g_ref04_eight (a.1.2.2.2.1.2.2.1, ()))).bind (fun (v9 : (List Int)) =>
          ((appX v8 v9 1)).bind (fun (v10 : (List Int)) =>
           ((g_ref04_eight (a.1.2.2.2.1.2.2.2.1, ()))).bind (fun (v11 : (List Int)) =>
            ((appX v10 v11 1)).bind (fun (v12 : (List Int)) =>
             ((g_ref04_eight (a.1.2.2.2.1.2.2.2.2.1, ()))).bind (fun (v13 : (List Int)) =>
              ((appX v12 v13 1)).bind (fun (v14 : (List Int)) =>
               ((g_ref04_eight a.1.2.2.2.1.2.2.2.2.2)).bind (fun (v15 : (List Int)) =>
                ((appX v14 v15 1)).bind (fun (v16 : (List Int)) =>
                 ((g_ref02_Sum (v16, ()))).bind (fun (v17 : Int) =>
                  ((appX v16 ((IntKind.wrap .u8 (Int.tmod v17 256)) :: ((IntKind.wrap .u8 (Int.tmod (IntKind.wrap .u32 (Int.tdiv v17 256)) 256)) :: ((IntKind.wrap .u8 (Int.tmod (IntKind.wrap .u32 (Int.tdiv v17 65536)) 256)) :: ((IntKind.wrap .u8 (IntKind.wrap .u32 (Int.tdiv v17 16777216))) :: [])))) 1)).bind (fun (v18 : (List Int)) =>
                   some v18))))))))))))))))))
noncomputable def tc17 : TCn := ⟨[shFrame], [(.slice 1 (.int .u8))], g_ref04_Encode⟩
noncomputable def T17 := (17, tc17) :: T42
theorem t17 : Tbl Try.prog T17 := Tbl.add t42 hn 5 17 tc17 (by kernel_rfl) (fun a => by kernel_rfl)
noncomputable def g_ref04_number (a : ((List Int) × (Int × Unit))) : Option Int :=
 ((getI a.1 a.2.1)).bind (fun (v1 : Int) =>
  ((getI a.1 (IntKind.wrap .i64 (a.2.1 + 1)))).bind (fun (v2 : Int) =>
   ((getI a.1 (IntKind.wrap .i64 (a.2.1 + 2)))).bind (fun (v3 : Int) =>
    ((getI a.1 (IntKind.wrap .i64 (a.2.1 + 3)))).bind (fun (v4 : Int) =>
     some (IntKind.wrap .i64 ((IntKind.wrap .i64 ((IntKind.wrap .i64 ((IntKind.wrap .i64 ((IntKind.wrap .i64 v1) * (2 ^ 24))) + (IntKind.wrap .i64 ((IntKind.wrap .i64 v2) * (2 ^ 16))))) + (IntKind.wrap .i64 ((IntKind.wrap .i64 v3) * (2 ^ 8))))) + (IntKind.wrap .i64 v4)))))))
noncomputable def tc45 : TCn := ⟨[(.slice 1 (.int .u8)), (.int .i64)], [(.int .i64)], g_ref04_number⟩
noncomputable def T45 := (45, tc45) :: T17
theorem t45 : Tbl Try.prog T45 := Tbl.add t17 hn 5 45 tc45 (by kernel_rfl) (fun a => by kernel_rfl)
noncomputable def g_ref04_Decode (a : ((List Int) × Unit)) : Option (FrameT × (Int × Unit)) :=
 (
  bif ((a.1.length : Int) != 72) then some true
  else ((g_ref04_number (a.1, (0, ())))).bind (fun (v1 : Int) =>
   some (v1 != 72))).bind (fun (v2 : Bool) =>
  bif v2 then some ((0, (0, (0, ((0, (0, (0, (0, (0, (0, ())))))), ())))), (2, ()))
  else ((subI a.1 0 68)).bind (fun (v3 : (List Int)) =>
   ((g_ref02_Sum (v3, ()))).bind (fun (v4 : Int) =>
    ((getI a.1 68)).bind (fun (v5 : Int) =>
     (
      bif (v5 != (IntKind.wrap .u8 v4)) then some true
      else ((getI a.1 69)).bind (fun (v6 : Int) =>
       some (v6 != (IntKind.wrap .u8 (Int.fdiv v4 (2 ^ 8)))))).bind (fun (v7 : Bool) =>
      (
       bif v7 then some true
       else ((getI a.1 70)).bind (fun (v8 : Int) =>
        some (v8 != (IntKind.wrap .u8 (Int.fdiv v4 (2 ^ 16)))))).bind (fun (v9 : Bool) =>
       (
        bif v9 then some true
        else ((getI a.1 71)).bind (fun (v10 : Int) =>
         some (v10 != (IntKind.wrap .u8 (Int.fdiv v4 (2 ^ 24)))))).bind (fun (v11 : Bool) =>
        bif v11 then some ((0, (0, (0, ((0, (0, (0, (0, (0, (0, ())))))), ())))), (10, ()))
        else ((g_ref04_number (a.1, (4, ())))).bind (fun (v12 : Int) =>
         ((g_ref04_number (a.1, (16, ())))).bind (fun (v13 : Int) =>
          ((g_ref04_number (a.1, (8, ())))).bind (fun (v14 : Int) =>
           ((g_ref04_number (a.1, (12, ())))).bind (fun (v15 : Int) =>
            ((g_ref04_number (a.1, ((IntKind.wrap .i64 (20 + (IntKind.wrap .i64 (8 * 0)))), ())))).bind (fun (v16 : Int) =>
             ((g_ref04_number (a.1, ((IntKind.wrap .i64 (24 + (IntKind.wrap .i64 (8 * 0)))), ())))).bind (fun (v17 : Int) =>
              ((g_ref04_number (a.1, ((IntKind.wrap .i64 (20 + (IntKind.wrap .i64 (8 * (IntKind.wrap .i64 (0 + 1)))))), ())))).bind (fun (v18 : Int) =>
               ((g_ref04_number (a.1, ((IntKind.wrap .i64 (24 + (IntKind.wrap .i64 (8 * (IntKind.wrap .i64 (0 + 1)))))), ())))).bind (fun (v19 : Int) =>
                ((g_ref04_number (a.1, ((IntKind.wrap .i64 (20 + (IntKind.wrap .i64 (8 * (IntKind.wrap .i64 ((IntKind.wrap .i64 (0 + 1)) + 1)))))), ())))).bind (fun (v20 : Int) =>
                 ((g_ref04_number (a.1, ((IntKind.wrap .i64 (24 + (IntKind.wrap .i64 (8 * (IntKind.wrap .i64 ((IntKind.wrap .i64 (0 + 1)) + 1)))))), ())))).bind (fun (v21 : Int) =>
                  ((g_ref04_number (a.1, ((IntKind.wrap .i64 (20 + (IntKind.wrap .i64 (8 * (IntKind.wrap .i64 ((IntKind.wrap .i64 ((IntKind.wrap .i64 (0 + 1)) + 1)) + 1)))))), ())))).bind (fun (v22 : Int) =>
                   ((g_ref04_number (a.1, ((IntKind.wrap .i64 (24 + (IntKind.wrap .i64 (8 * (IntKind.wrap .i64 ((IntKind.wrap .i64 ((IntKind.wrap .i64 (0 + 1)) + 1)) + 1)))))), ())))).bind (fun (v23 : Int) =>
                    ((g_ref04_number (a.1, ((IntKind.wrap .i64 (20 + (IntKind.wrap .i64 (8 * (IntKind.wrap .i64 ((IntKind.wrap .i64 ((IntKind.wrap .i64 ((IntKind.wrap .i64 (0 + 1)) + 1)) + 1)) + 1)))))), ())))).bind (fun (v24 : Int) =>
                     ((g_ref04_number (a.1, ((IntKind.wrap .i64 (24 + (IntKind.wrap .i64 (8 * (IntKind.wrap .i64 ((IntKind.wrap .i64 ((IntKind.wrap .i64 ((IntKind.wrap .i64 (0 + 1)) + 1)) + 1)) + 1)))))), ())))).bind (fun (v25 : Int) =>
                      ((g_ref04_number (a.1, ((IntKind.wrap .i64 (20 + (IntKind.wrap .i64 (8 * (IntKind.wrap .i64 ((IntKind.wrap .i64 ((IntKind.wrap .i64 ((IntKind.wrap .i64 ((IntKind.wrap .i64 (0 + 1)) + 1)) + 1)) + 1)) + 1)))))), ())))).bind (fun (v26 : Int) =>
                       ((g_ref04_number (a.1, ((IntKind.wrap .i64 (24 + (IntKind.wrap .i64 (8 * (IntKind.wrap .i64 ((IntKind.wrap .i64 ((IntKind.wrap .i64 ((IntKind.wrap .i64 ((IntKind.wrap .i64 (0 + 1)) + 1)) + 1)) + 1)) + 1)))))), ())))).bind (fun (v27 : Int) =>
                        ((g_ref04_Right ((v12, ((Go.bits Go.BinOp.or Go.IntKind.i64 (IntKind.wrap .i64 (v14 * (2 ^ 32))) v15), (v13, (((Go.bits Go.BinOp.or Go.IntKind.i64 (IntKind.wrap .i64 (v16 * (2 ^ 32))) v17), ((Go.bits Go.BinOp.or Go.IntKind.i64 (IntKind.wrap .i64 (v18 * (2 ^ 32))) v19), ((Go.bits Go.BinOp.or Go.IntKind.i64 (IntKind.wrap .i64 (v20 * (2 ^ 32))) v21), ((Go.bits Go.BinOp.or Go.IntKind.i64 (IntKind.wrap .i64 (v22 * (2 ^ 32))) v23), ((Go.bits Go.BinOp.or Go.IntKind.i64 (IntKind.wrap .i64 (v24 * (2 ^ 32))) v25), ((Go.bits Go.BinOp.or Go.IntKind.i64 (IntKind.wrap .i64 (v26 * (2 ^ 32))) v27), ())))))), ())))), ()))).bind (fun (v28 : Bool) =>
                         bif (!v28) then some ((0, (0, (0, ((0, (0, (0, (0, (0, (0, ())))))), ())))), (2, ()))
                         else some ((v12, ((Go.bits Go.BinOp.or Go.IntKind.i64 (IntKind.wrap .i64 (v14 * (2 ^ 32))) v15), (v13, (((Go.bits Go.BinOp.or Go.IntKind.i64 (IntKind.wrap .i64 (v16 * (2 ^ 32))) v17), ((Go.bits Go.BinOp.or Go.IntKind.i64 (IntKind.wrap .i64 (v18 * (2 ^ 32))) v19), ((Go.bits Go.BinOp.or Go.IntKind.i64 (IntKind.wrap .i64 (v20 * (2 ^ 32))) v21), ((Go.bits Go.BinOp.or Go.IntKind.i64 (IntKind.wrap .i64 (v22 * (2 ^ 32))) v23), ((Go.bits Go.BinOp.or Go.IntKind.i64 (IntKind.wrap .i64 (v24 * (2 ^ 32))) v25), ((Go.bits Go.BinOp.or Go.IntKind.i64 (IntKind.wrap .i64 (v26 * (2 ^ 32))) v27), ())))))), ())))), (0, ()))))))))))))))))))))))))))
noncomputable def tc19 : TCn := ⟨[(.slice 1 (.int .u8))], [shFrame, (.int .i64)], g_ref04_Decode⟩
noncomputable def T19 := (19, tc19) :: T45
theorem t19 : Tbl Try.prog T19 := Tbl.add t45 hn 5 19 tc19 (by kernel_rfl) (fun a => by kernel_rfl)
noncomputable def g_frame_Encode (a : (FrameT × Unit)) : Option ((List Int) × (Int × Unit)) :=
 ((g_frame_Right a)).bind (fun (v1 : Bool) =>
  bif (!v1) then some ([], (1, ()))
  else (
   loopO (fun (v2 : (Int × ((List Int) × Unit))) =>
    bif (decide (v2.1 ≥ 0)) then bif (decide (0 ≤ (IntKind.wrap .i64 (8 * v2.1)))) then ((appX v2.2.1 ((IntKind.wrap .u8 (Int.fdiv 72 (2 ^ (Min.min (Int.toNat (IntKind.wrap .i64 (8 * v2.1))) 64)))) :: []) 1)).bind (fun (v3 : (List Int)) =>
       some (.inl ((IntKind.wrap .i64 (v2.1 - 1)), (v3, ()))))
     else none
    else (some v2.2).map .inr) ((IntKind.wrap .i64 (4 - 1)), ([], ()))).bind (fun (v4 : ((List Int) × Unit)) =>
   (
    loopO (fun (v5 : (Int × ((List Int) × Unit))) =>
     bif (decide (v5.1 ≥ 0)) then bif (decide (0 ≤ (IntKind.wrap .i64 (8 * v5.1)))) then ((appX v5.2.1 ((IntKind.wrap .u8 (Int.fdiv (IntKind.wrap .u64 a.1.1) (2 ^ (Min.min (Int.toNat (IntKind.wrap .i64 (8 * v5.1))) 64)))) :: []) 1)).bind (fun (v6 : (List Int)) =>
        some (.inl ((IntKind.wrap .i64 (v5.1 - 1)), (v6, ()))))
      else none
     else (some v5.2).map .inr) ((IntKind.wrap .i64 (4 - 1)), v4)).bind (fun (v7 : ((List Int) × Unit)) =>
    (
     loopO (fun (v8 : (Int × ((List Int) × Unit))) =>
      bif (decide (v8.1 ≥ 0)) then bif (decide (0 ≤ (IntKind.wrap .i64 (8 * v8.1)))) then ((appX v8.2.1 ((IntKind.wrap .u8 (Int.fdiv (IntKind.wrap .u64 a.1.2.1) (2 ^ (Min.min (Int.toNat (IntKind.wrap .i64 (8 * v8.1))) 64)))) :: []) 1)).bind (fun (v9 : (List Int)) =>
         some (.inl ((IntKind.wrap .i64 (v8.1 - 1)), (v9, ()))))
       else none
      else (some v8.2).map .inr) ((IntKind.wrap .i64 (8 - 1)), v7)).bind (fun (v10 : ((List Int) × Unit)) =>
     (
      loopO (fun (v11 : (Int × ((List Int) × Unit))) =>
       bif (decide (v11.1 ≥ 0)) then bif (decide (0 ≤ (IntKind.wrap .i64 (8 * v11.1)))) then ((appX v11.2.1 ((IntKind.wrap .u8 (Int.fdiv (IntKind.wrap .u64 a.1.2.2.1) (2 ^ (Min.min (Int.toNat (IntKind.wrap .i64 (8 * v11.1))) 64)))) :: []) 1)).bind (fun (v12 : (List Int)) =>
          some (.inl ((IntKind.wrap .i64 (v11.1 - 1)), (v12, ()))))
        else none
       else (some v11.2).map .inr) ((IntKind.wrap .i64 (4 - 1)), v10)).bind (fun (v13 : ((List Int) × Unit)) =>
      (
       loopO (fun (v14 : (Int × ((List Int) × Unit))) =>
        bif (decide (v14.1 ≥ 0)) then bif (decide (0 ≤ (IntKind.wrap .i64 (8 * v14.1)))) then ((appX v14.2.1 ((IntKind.wrap .u8 (Int.fdiv (IntKind.wrap .u64 a.1.2.2.2.1.1) (2 ^ (Min.min (Int.toNat (IntKind.wrap .i64 (8 * v14.1))) 64)))) :: []) 1)).bind (fun (v15 : (List Int)) =>
           some (.inl ((IntKind.wrap .i64 (v14.1 - 1)), (v15, ()))))
         else none
        else (some v14.2).map .inr) ((IntKind.wrap .i64 (8 - 1)), v13)).bind (fun (v16 : ((List Int) × Unit)) =>
       (
        loopO (fun (v17 : (Int × ((List Int) × Unit))) =>
         bif (decide (v17.1 ≥ 0)) then bif (decide (0 ≤ (IntKind.wrap .i64 (8 * v17.1)))) then ((appX v17.2.1 ((IntKind.wrap .u8 (Int.fdiv (IntKind.wrap .u64 a.1.2.2.2.1.2.1) (2 ^ (Min.min (Int.toNat (IntKind.wrap .i64 (8 * v17.1))) 64)))) :: []) 1)).bind (fun (v18 : (List Int)) =>
            some (.inl ((IntKind.wrap .i64 (v17.1 - 1)), (v18, ()))))
          else none
         else (some v17.2).map .inr) ((IntKind.wrap .i64 (8 - 1)), v16)).bind (fun (v19 : ((List Int) × Unit)) =>
        (
         loopO (fun (v20 : (Int × ((List Int) × Unit))) =>
          bif (decide (v20.1 ≥ 0)) then bif (decide (0 ≤ (IntKind.wrap .i64 (8 * v20.1)))) then ((appX v20.2.1 ((IntKind.wrap .u8 (Int.fdiv (IntKind.wrap .u64 a.1.2.2.2.1.2.2.1) (2 ^ (Min.min (Int.toNat (IntKind.wrap .i64 (8 * v20.1))) 64)))) :: []) 1)).bind (fun (v21 : (List Int)) =>
             some (.inl ((IntKind.wrap .i64 (v20.1 - 1)), (v21, ()))))
           else none
          else (some v20.2).map .inr) ((IntKind.wrap .i64 (8 - 1)), v19)).bind (fun (v22 : ((List Int) × Unit)) =>
         (
          loopO (fun (v23 : (Int × ((List Int) × Unit))) =>
           bif (decide (v23.1 ≥ 0)) then bif (decide (0 ≤ (IntKind.wrap .i64 (8 * v23.1)))) then ((appX v23.2.1 ((IntKind.wrap .u8 (Int.fdiv (IntKind.wrap .u64 a.1.2.2.2.1.2.2.2.1) (2 ^ (Min.min (Int.toNat (IntKind.wrap .i64 (8 * v23.1))) 64)))) :: []) 1)).bind (fun (v24 : (List Int)) =>
              some (.inl ((IntKind.wrap .i64 (v23.1 - 1)), (v24, ()))))
            else none
           else (some v23.2).map .inr) ((IntKind.wrap .i64 (8 - 1)), v22)).bind (fun (v25 : ((List Int) × Unit)) =>
          (
           loopO (fun (v26 : (Int × ((List Int) × Unit))) =>
            bif (decide (v26.1 ≥ 0)) then bif (decide (0 ≤ (IntKind.wrap .i64 (8 * v26.1)))) then ((appX v26.2.1 ((IntKind.wrap .u8 (Int.fdiv (IntKind.wrap .u64 a.1.2.2.2.1.2.2.2.2.1) (2 ^ (Min.min (Int.toNat (IntKind.wrap .i64 (8 * v26.1))) 64)))) :: []) 1)).bind (fun (v27 : (List Int)) =>
               some (.inl ((IntKind.wrap .i64 (v26.1 - 1)), (v27, ()))))
             else none
            else (some v26.2).map .inr) ((IntKind.wrap .i64 (8 - 1)), v25)).bind (fun (v28 : ((List Int) × Unit)) =>
           (
            loopO (fun (v29 : (Int × ((List Int) × Unit))) =>
             bif (decide (v29.1 ≥ 0)) then bif (decide (0 ≤ (IntKind.wrap .i64 (8 * v29.1)))) then ((appX v29.2.1 ((IntKind.wrap .u8 (Int.fdiv (IntKind.wrap .u64 a.1.2.2.2.1.2.2.2.2.2.1) (2 ^ (Min.min (Int.toNat (IntKind.wrap .i64 (8 * v29.1))) 64)))) :: []) 1)).bind (fun (v30 : (List Int)) =>
                some (.inl ((IntKind.wrap .i64 (v29.1 - 1)), (v30, ()))))
              else none
             else (some v29.2).map .inr) ((IntKind.wrap .i64 (8 - 1)), v28)).bind (fun (v31 : ((List Int) × Unit)) =>
            ((g_crc_Sum v31)).bind (fun (v32 : Int) =>
             ((appX v31.1 ((IntKind.wrap .u8 v32) :: ((IntKind.wrap .u8 (Int.fdiv v32 (2 ^ 8))) :: ((IntKind.wrap .u8 (Int.fdiv v32 (2 ^ 16))) :: ((IntKind.wrap .u8 (Int.fdiv v32 (2 ^ 24))) :: [])))) 1)).bind (fun (v33 : (List Int)) =>
              some (v33, (0, ())))))))))))))))
noncomputable def tc15 : TCn := ⟨[shFrame], [(.slice 1 (.int .u8)), (.int .i64)], g_frame_Encode⟩
noncomputable def T15 := (15, tc15) :: T19
theorem t15 : Tbl Try.prog T15 := Tbl.add t19 hn 5 15 tc15 (by kernel_rfl) (fun a => by kernel_rfl)
noncomputable def g_frame_Decode (a : ((List Int) × Unit)) : Option (FrameT × (Int × Unit)) :=
 bif ((a.1.length : Int) != 72) then some ((0, (0, (0, ((0, (0, (0, (0, (0, (0, ())))))), ())))), (2, ()))
 else ((subI a.1 0 68)).bind (fun (v1 : (List Int)) =>
  ((subI v1 0 4)).bind (fun (v2 : (List Int)) =>
   (
    loopO (fun (v3 : NextT) =>
     bif (decide (v3.2.1 < (v2.length : Int))) then ((getI v2 v3.2.1)).bind (fun (v4 : Int) =>
       some (.inl ((Go.bits Go.BinOp.or Go.IntKind.u64 (IntKind.wrap .u64 (v3.1 * (2 ^ 8))) (IntKind.wrap .u64 v4)), ((IntKind.wrap .i64 (v3.2.1 + 1)), ()))))
     else (some (v3.1, ())).map .inr) (0, (0, ()))).bind (fun (v5 : (Int × Unit)) =>
    ((subI v1 4 (v1.length : Int))).bind (fun (v6 : (List Int)) =>
     ((subI a.1 0 68)).bind (fun (v7 : (List Int)) =>
      ((g_crc_Sum (v7, ()))).bind (fun (v8 : Int) =>
       ((subI a.1 68 (a.1.length : Int))).bind (fun (v9 : (List Int)) =>
        (
         loopO (fun (v10 : (Bool × (Int × Unit))) =>
          bif (decide (v10.2.1 < (v9.length : Int))) then ((getI v9 v10.2.1)).bind (fun (v11 : Int) =>
            (
             bif v10.1 then bif (decide (0 ≤ (IntKind.wrap .i64 (8 * v10.2.1)))) then some (v11 == (IntKind.wrap .u8 (Int.fdiv v8 (2 ^ (Min.min (Int.toNat (IntKind.wrap .i64 (8 * v10.2.1))) 32)))))
              else none
             else some false).bind (fun (v12 : Bool) =>
             some (.inl (v12, ((IntKind.wrap .i64 (v10.2.1 + 1)), ())))))
          else (some (v10.1, ())).map .inr) (true, (0, ()))).bind (fun (v13 : (Bool × Unit)) =>
         bif (v5.1 != 72) then some ((0, (0, (0, ((0, (0, (0, (0, (0, (0, ())))))), ())))), (2, ()))
         else bif (!v13.1) then some ((0, (0, (0, ((0, (0, (0, (0, (0, (0, ())))))), ())))), (10, ()))
         else ((subI v6 0 4)).bind (fun (v14 : (List Int)) =>
          (
           loopO (fun (v15 : NextT) =>
            bif (decide (v15.2.1 < (v14.length : Int))) then ((getI v14 v15.2.1)).bind (fun (v16 : Int) =>
              some (.inl ((Go.bits Go.BinOp.or Go.IntKind.u64 (IntKind.wrap .u64 (v15.1 * (2 ^ 8))) (IntKind.wrap .u64 v16)), ((IntKind.wrap .i64 (v15.2.1 + 1)), ()))))
            else (some (v15.1, ())).map .inr) (0, (0, ()))).bind (fun (v17 : (Int × Unit)) =>
           ((subI v6 4 (v6.length : Int))).bind (fun (v18 : (List Int)) =>
            ((subI v18 0 8)).bind (fun (v19 : (List Int)) =>
             (
              loopO (fun (v20 : NextT) =>
               bif (decide (v20.2.1 < (v19.length : Int))) then ((getI v19 v20.2.1)).bind (fun (v21 : Int) =>
                 some (.inl ((Go.bits Go.BinOp.or Go.IntKind.u64 (IntKind.wrap .u64 (v20.1 * (2 ^ 8))) (IntKind.wrap .u64 v21)), ((IntKind.wrap .i64 (v20.2.1 + 1)), ()))))
               else (some (v20.1, ())).map .inr) (0, (0, ()))).bind (fun (v22 : (Int × Unit)) =>
              ((subI v18 8 (v18.length : Int))).bind (fun (v23 : (List Int)) =>
               ((subI v23 0 4)).bind (fun (v24 : (List Int)) =>
                (
                 loopO (fun (v25 : NextT) =>
                  bif (decide (v25.2.1 < (v24.length : Int))) then ((getI v24 v25.2.1)).bind (fun (v26 : Int) =>
                    some (.inl ((Go.bits Go.BinOp.or Go.IntKind.u64 (IntKind.wrap .u64 (v25.1 * (2 ^ 8))) (IntKind.wrap .u64 v26)), ((IntKind.wrap .i64 (v25.2.1 + 1)), ()))))
                  else (some (v25.1, ())).map .inr) (0, (0, ()))).bind (fun (v27 : (Int × Unit)) =>
                 ((subI v23 4 (v23.length : Int))).bind (fun (v28 : (List Int)) =>
                  ((subI v28 0 8)).bind (fun (v29 : (List Int)) =>
                   (
                    loopO (fun (v30 : NextT) =>
                     bif (decide (v30.2.1 < (v29.length : Int))) then ((getI v29 v30.2.1)).bind (fun (v31 : Int) =>
                       some (.inl ((Go.bits Go.BinOp.or Go.IntKind.u64 (IntKind.wrap .u64 (v30.1 * (2 ^ 8))) (IntKind.wrap .u64 v31)), ((IntKind.wrap .i64 (v30.2.1 + 1)), ()))))
                     else (some (v30.1, ())).map .inr) (0, (0, ()))).bind (fun (v32 : (Int × Unit)) =>
                    ((subI v28 8 (v28.length : Int))).bind (fun (v33 : (List Int)) =>
                     ((subI v33 0 8)).bind (fun (v34 : (List Int)) =>
                      (
                       loopO (fun (v35 : NextT) =>
                        bif (decide (v35.2.1 < (v34.length : Int))) then ((getI v34 v35.2.1)).bind (fun (v36 : Int) =>
                          some (.inl ((Go.bits Go.BinOp.or Go.IntKind.u64 (IntKind.wrap .u64 (v35.1 * (2 ^ 8))) (IntKind.wrap .u64 v36)), ((IntKind.wrap .i64 (v35.2.1 + 1)), ()))))
                        else (some (v35.1, ())).map .inr) (0, (0, ()))).bind (fun (v37 : (Int × Unit)) =>
                       ((subI v33 8 (v33.length : Int))).bind (fun (v38 : (List Int)) =>
                        ((subI v38 0 8)).bind (fun (v39 : (List Int)) =>
                         (
                          loopO (fun (v40 : NextT) =>
                           bif (decide (v40.2.1 < (v39.length : Int))) then ((getI v39 v40.2.1)).bind (fun (v41 : Int) =>
                             some (.inl ((Go.bits Go.BinOp.or Go.IntKind.u64 (IntKind.wrap .u64 (v40.1 * (2 ^ 8))) (IntKind.wrap .u64 v41)), ((IntKind.wrap .i64 (v40.2.1 + 1)), ()))))
                           else (some (v40.1, ())).map .inr) (0, (0, ()))).bind (fun (v42 : (Int × Unit)) =>
                          ((subI v38 8 (v38.length : Int))).bind (fun (v43 : (List Int)) =>
                           ((subI v43 0 8)).bind (fun (v44 : (List Int)) =>
                            (
                             loopO (fun (v45 : NextT) =>
                              bif (decide (v45.2.1 < (v44.length : Int))) then ((getI v44 v45.2.1)).bind (fun (v46 : Int) =>
                                some (.inl ((Go.bits Go.BinOp.or Go.IntKind.u64 (IntKind.wrap .u64 (v45.1 * (2 ^ 8))) (IntKind.wrap .u64 v46)), ((IntKind.wrap .i64 (v45.2.1 + 1)), ()))))
                              else (some (v45.1, ())).map .inr) (0, (0, ()))).bind (fun (v47 : (Int × Unit)) =>
                             ((subI v43 8 (v43.length : Int))).bind (fun (v48 : (List Int)) =>
                              ((subI v48 0 8)).bind (fun (v49 : (List Int)) =>
                               (
                                loopO (fun (v50 : NextT) =>
                                 bif (decide (v50.2.1 < (v49.length : Int))) then ((getI v49 v50.2.1)).bind (fun (v51 : Int) =>
                                   some (.inl ((Go.bits Go.BinOp.or Go.IntKind.u64 (IntKind.wrap .u64 (v50.1 * (2 ^ 8))) (IntKind.wrap .u64 v51)), ((IntKind.wrap .i64 (v50.2.1 + 1)), ()))))
                                 else (some (v50.1, ())).map .inr) (0, (0, ()))).bind (fun (v52 : (Int × Unit)) =>
                                ((subI v48 8 (v48.length : Int))).bind (fun (v53 : (List Int)) =>
                                 ((subI v53 0 8)).bind (fun (v54 : (List Int)) =>
                                  (
                                   loopO (fun (v55 : NextT) =>
                                    bif (decide (v55.2.1 < (v54.length : Int))) then ((getI v54 v55.2.1)).bind (fun (v56 : Int) =>
                                      some (.inl ((Go.bits Go.BinOp.or Go.IntKind.u64 (IntKind.wrap .u64 (v55.1 * (2 ^ 8))) (IntKind.wrap .u64 v56)), ((IntKind.wrap .i64 (v55.2.1 + 1)), ()))))
                                    else (some (v55.1, ())).map .inr) (0, (0, ()))).bind (fun (v57 : (Int × Unit)) =>
                                   ((subI v53 8 (v53.length : Int))).bind (fun (v58 : (List Int)) =>
                                    ((g_frame_Right (((IntKind.wrap .i64 v17.1), ((IntKind.wrap .i64 v22.1), ((IntKind.wrap .i64 v27.1), (((IntKind.wrap .i64 v32.1), ((IntKind.wrap .i64 v37.1), ((IntKind.wrap .i64 v42.1), ((IntKind.wrap .i64 v47.1), ((IntKind.wrap .i64 v52.1), ((IntKind.wrap .i64 v57.1), ())))))), ())))), ()))).bind (fun (v59 : Bool) =>
                                     bif (!v59) then some ((0, (0, (0, ((0, (0, (0, (0, (0, (0, ())))))), ())))), (2, ()))
                                     else some (((IntKind.wrap .i64 v17.1), ((IntKind.wrap .i64 v22.1), ((IntKind.wrap .i64 v27.1), (((IntKind.wrap .i64 v32.1), ((IntKind.wrap .i64 v37.1), ((IntKind.wrap .i64 v42.1), ((IntKind.wrap .i64 v47.1), ((IntKind.wrap .i64 v52.1), ((IntKind.wrap .i64 v57.1), ())))))), ())))), (0, ()))))))))))))))))))))))))))))))))))))))
noncomputable def tc18 : TCn := ⟨[(.slice 1 (.int .u8))], [shFrame, (.int .i64)], g_frame_Decode⟩
noncomputable def T18 := (18, tc18) :: T15
theorem t18 : Tbl Try.prog T18 := Tbl.add t15 hn 5 18 tc18 (by kernel_rfl) (fun a => by kernel_rfl)
noncomputable def g_law04_awake (a : Unit) : Option Bool :=
 ((g_frame_Encode ((1, (2, (4, (((-1), (0, (3, (0, (0, (0, ())))))), ())))), ()))).bind (fun (v1 : ((List Int) × (Int × Unit))) =>
  ((g_frame_Decode (v1.1, ()))).bind (fun (v2 : (FrameT × (Int × Unit))) =>
   ((g_frame_Encode ((1, (2, (0, ((0, (0, (0, (0, (0, (0, ())))))), ())))), ()))).bind (fun (v3 : ((List Int) × (Int × Unit))) =>
    (
     bif (((((v1.2.1 == 0) && ((v1.1.length : Int) == 72)) && (v2.2.1 == 0)) && ((v2.1.1 == 1) && ((v2.1.2.1 == 2) && ((v2.1.2.2.1 == 4) && ((v2.1.2.2.2.1.1 == (-1)) && ((v2.1.2.2.2.1.2.1 == 0) && ((v2.1.2.2.2.1.2.2.1 == 3) && ((v2.1.2.2.2.1.2.2.2.1 == 0) && ((v2.1.2.2.2.1.2.2.2.2.1 == 0) && ((v2.1.2.2.2.1.2.2.2.2.2.1 == 0) && true)))))))))) && (v3.2.1 == 1)) then ((g_frame_Right ((1, (2, (4, (((-1), (0, (3, (0, (0, (0, ())))))), ())))), ()))).bind (fun (v4 : Bool) =>
       some v4)
     else some false).bind (fun (v5 : Bool) =>
     some v5))))
noncomputable def tc13 : TCn := ⟨[], [.bool], g_law04_awake⟩
noncomputable def T13 := (13, tc13) :: T18
theorem t13 : Tbl Try.prog T13 := Tbl.add t18 hn 5 13 tc13 (by kernel_rfl) (fun a => by kernel_rfl)
noncomputable def g_law04_FrameRight (a : (FrameT × ((List Int) × Unit))) : Option Bool :=
 ((g_law04_awake ())).bind (fun (v1 : Bool) =>
  bif (!v1) then some false
  else bif (decide ((a.2.1.length : Int) > 200)) then some true
  else ((g_ref04_Right (a.1, ()))).bind (fun (v2 : Bool) =>
   ((g_frame_Encode (a.1, ()))).bind (fun (v3 : ((List Int) × (Int × Unit))) =>
    ((g_frame_Right (a.1, ()))).bind (fun (v4 : Bool) =>
     (
      bif (v4 != v2) then some true
      else (
       bif v2 then (
         bif (v3.2.1 != 0) then some true
         else ((g_ref04_Encode (a.1, ()))).bind (fun (v5 : (List Int)) =>
          some (!(decide ((mkS v3.1) = (mkS v5)))))).bind (fun (v6 : Bool) =>
         some v6)
       else some false).bind (fun (v7 : Bool) =>
       some v7)).bind (fun (v8 : Bool) =>
      bif (v8 || ((!v2) && ((v3.2.1 != 1) || ((v3.1.length : Int) != 0)))) then some false
      else ((g_frame_Decode a.2)).bind (fun (v9 : (FrameT × (Int × Unit))) =>
       ((g_ref04_Decode a.2)).bind (fun (v10 : (FrameT × (Int × Unit))) =>
        some (((v9.1.1 == v10.1.1) && ((v9.1.2.1 == v10.1.2.1) && ((v9.1.2.2.1 == v10.1.2.2.1) && ((v9.1.2.2.2.1.1 == v10.1.2.2.2.1.1) && ((v9.1.2.2.2.1.2.1 == v10.1.2.2.2.1.2.1) && ((v9.1.2.2.2.1.2.2.1 == v10.1.2.2.2.1.2.2.1) && ((v9.1.2.2.2.1.2.2.2.1 == v10.1.2.2.2.1.2.2.2.1) && ((v9.1.2.2.2.1.2.2.2.2.1 == v10.1.2.2.2.1.2.2.2.2.1) && ((v9.1.2.2.2.1.2.2.2.2.2.1 == v10.1.2.2.2.1.2.2.2.2.2.1) && true))))))))) && (v9.2.1 == v10.2.1)))))))))
noncomputable def tc3 : TCn := ⟨[shFrame, (.slice 1 (.int .u8))], [.bool], g_law04_FrameRight⟩
noncomputable def T3 := (3, tc3) :: T13
theorem t3 : Tbl Try.prog T3 := Tbl.add t13 hn 5 3 tc3 (by kernel_rfl) (fun a => by kernel_rfl)
noncomputable def g_law04_FrameBack (a : (FrameT × (FrameT × ((List Int) × Unit)))) : Option Bool :=
 ((g_law04_awake ())).bind (fun (v1 : Bool) =>
  bif (!v1) then some false
  else bif (decide ((a.2.2.1.length : Int) > 200)) then some true
  else ((g_frame_Decode a.2.2)).bind (fun (v2 : (FrameT × (Int × Unit))) =>
   (
    bif (v2.2.1 == 0) then ((g_frame_Encode (v2.1, ()))).bind (fun (v3 : ((List Int) × (Int × Unit))) =>
      (
       bif (v3.2.1 != 0) then some true
       else some (!(decide ((mkS v3.1) = (mkS a.2.2.1))))).bind (fun (v4 : Bool) =>
       (
        bif v4 then some true
        else ((g_frame_Right (v2.1, ()))).bind (fun (v5 : Bool) =>
         some (!v5))).bind (fun (v6 : Bool) =>
        bif v6 then (some false).map .inr
        else some (.inl ()))))
    else bif (!((v2.1.1 == 0) && ((v2.1.2.1 == 0) && ((v2.1.2.2.1 == 0) && ((v2.1.2.2.2.1.1 == 0) && ((v2.1.2.2.2.1.2.1 == 0) && ((v2.1.2.2.2.1.2.2.1 == 0) && ((v2.1.2.2.2.1.2.2.2.1 == 0) && ((v2.1.2.2.2.1.2.2.2.2.1 == 0) && ((v2.1.2.2.2.1.2.2.2.2.2.1 == 0) && true)))))))))) then (some false).map .inr
    else some (.inl ())).bind (eX (fun (v7 : Unit) =>
    ((g_frame_Encode (a.1, ()))).bind (fun (v8 : ((List Int) × (Int × Unit))) =>
     ((g_frame_Encode (a.2.1, ()))).bind (fun (v9 : ((List Int) × (Int × Unit))) =>
      bif ((v8.2.1 != 0) || (v9.2.1 != 0)) then ((g_frame_Right (a.1, ()))).bind (fun (v10 : Bool) =>
        (
         bif ((v8.2.1 == 0) == v10) then ((g_frame_Right (a.2.1, ()))).bind (fun (v11 : Bool) =>
           some ((v9.2.1 == 0) == v11))
         else some false).bind (fun (v12 : Bool) =>
         some v12))
      else ((g_frame_Decode (v8.1, ()))).bind (fun (v13 : (FrameT × (Int × Unit))) =>
       (
        bif ((v13.2.1 == 0) && ((v13.1.1 == a.1.1) && ((v13.1.2.1 == a.1.2.1) && ((v13.1.2.2.1 == a.1.2.2.1) && ((v13.1.2.2.2.1.1 == a.1.2.2.2.1.1) && ((v13.1.2.2.2.1.2.1 == a.1.2.2.2.1.2.1) && ((v13.1.2.2.2.1.2.2.1 == a.1.2.2.2.1.2.2.1) && ((v13.1.2.2.2.1.2.2.2.1 == a.1.2.2.2.1.2.2.2.1) && ((v13.1.2.2.2.1.2.2.2.2.1 == a.1.2.2.2.1.2.2.2.2.1) && ((v13.1.2.2.2.1.2.2.2.2.2.1 == a.1.2.2.2.1.2.2.2.2.2.1) && true)))))))))) then some ((decide ((mkS v8.1) = (mkS v9.1))) == ((a.1.1 == a.2.1.1) && ((a.1.2.1 == a.2.1.2.1) && ((a.1.2.2.1 == a.2.1.2.2.1) && ((a.1.2.2.2.1.1 == a.2.1.2.2.2.1.1) && ((a.1.2.2.2.1.2.1 == a.2.1.2.2.2.1.2.1) && ((a.1.2.2.2.1.2.2.1 == a.2.1.2.2.2.1.2.2.1) && ((a.1.2.2.2.1.2.2.2.1 == a.2.1.2.2.2.1.2.2.2.1) && ((a.1.2.2.2.1.2.2.2.2.1 == a.2.1.2.2.2.1.2.2.2.2.1) && ((a.1.2.2.2.1.2.2.2.2.2.1 == a.2.1.2.2.2.1.2.2.2.2.2.1) && true))))))))))
        else some false).bind (fun (v14 : Bool) =>
        some v14))))))))
noncomputable def tc4 : TCn := ⟨[shFrame, shFrame, (.slice 1 (.int .u8))], [.bool], g_law04_FrameBack⟩
noncomputable def T4 := (4, tc4) :: T3
theorem t4 : Tbl Try.prog T4 := Tbl.add t3 hn 5 4 tc4 (by kernel_rfl) (fun a => by kernel_rfl)
noncomputable def g_law04_FrameTurned (a : (FrameT × (Int × ((Int × (Int × NextT)) × (Int × ((List Int) × Unit)))))) : Option Bool :=
 ((g_law04_awake ())).bind (fun (v1 : Bool) =>
  bif (!v1) then some false
  else ((g_frame_Encode (a.1, ()))).bind (fun (v2 : ((List Int) × (Int × Unit))) =>
   bif (((v2.2.1 != 0) || (decide ((a.2.2.2.2.1.length : Int) > 9))) || ((v2.1.length : Int) != 72)) then some ((v2.2.1 != 0) || (decide ((a.2.2.2.2.1.length : Int) > 9)))
   else bif (decide ((v2.1.length : Int) = 0)) then none
   else ((appX [] v2.1 1)).bind (fun (v3 : (List Int)) =>
    (
     bif ((decide (0 < 4)) && (decide ((IntKind.wrap .i64 ((Int.tmod (IntKind.wrap .i64 a.2.1) (v2.1.length : Int)) + 0)) < (v2.1.length : Int)))) then ((getI v2.1 (IntKind.wrap .i64 ((Int.tmod (IntKind.wrap .i64 a.2.1) (v2.1.length : Int)) + 0)))).bind (fun (v4 : Int) =>
       bif (inI (IntKind.wrap .i64 ((Int.tmod (IntKind.wrap .i64 a.2.1) (v2.1.length : Int)) + 0)) v3.length) then (v3[(Int.toNat (IntKind.wrap .i64 ((Int.tmod (IntKind.wrap .i64 a.2.1) (v2.1.length : Int)) + 0)))]?).bind (fun (v5 : Int) =>
         bif ((decide ((IntKind.wrap .i64 (0 + 1)) < 4)) && (decide ((IntKind.wrap .i64 ((Int.tmod (IntKind.wrap .i64 a.2.1) (v2.1.length : Int)) + (IntKind.wrap .i64 (0 + 1)))) < (v2.1.length : Int)))) then ((getI v2.1 (IntKind.wrap .i64 ((Int.tmod (IntKind.wrap .i64 a.2.1) (v2.1.length : Int)) + (IntKind.wrap .i64 (0 + 1)))))).bind (fun (v6 : Int) =>
           bif (inI (IntKind.wrap .i64 ((Int.tmod (IntKind.wrap .i64 a.2.1) (v2.1.length : Int)) + (IntKind.wrap .i64 (0 + 1)))) (List.set v3 (Int.toNat (IntKind.wrap .i64 ((Int.tmod (IntKind.wrap .i64 a.2.1) (v2.1.length : Int)) + 0))) (Go.bits Go.BinOp.xor Go.IntKind.u8 v4 a.2.2.1.1)).length) then ((List.set v3 (Int.toNat (IntKind.wrap .i64 ((Int.tmod (IntKind.wrap .i64 a.2.1) (v2.1.length : Int)) + 0))) (Go.bits Go.BinOp.xor Go.IntKind.u8 v4 a.2.2.1.1))[(Int.toNat (IntKind.wrap .i64 ((Int.tmod (IntKind.wrap .i64 a.2.1) (v2.1.length : Int)) + (IntKind.wrap .i64 (0 + 1)))))]?).bind (fun (v7 : Int) =>
             bif ((decide ((IntKind.wrap .i64 ((IntKind.wrap .i64 (0 + 1)) + 1)) < 4)) && (decide ((IntKind.wrap .i64 ((Int.tmod (IntKind.wrap .i64 a.2.1) (v2.1.length : Int)) + (IntKind.wrap .i64 ((IntKind.wrap .i64 (0 + 1)) + 1)))) < (v2.1.length : Int)))) then ((getI v2.1 (IntKind.wrap .i64 ((Int.tmod (IntKind.wrap .i64 a.2.1) (v2.1.length : Int)) + (IntKind.wrap .i64 ((IntKind.wrap .i64 (0 + 1)) + 1)))))).bind (fun (v8 : Int) =>
               bif (inI (IntKind.wrap .i64 ((Int.tmod (IntKind.wrap .i64 a.2.1) (v2.1.length : Int)) + (IntKind.wrap .i64 ((IntKind.wrap .i64 (0 + 1)) + 1)))) (List.set (List.set v3 (Int.toNat (IntKind.wrap .i64 ((Int.tmod (IntKind.wrap .i64 a.2.1) (v2.1.length : Int)) + 0))) (Go.bits Go.BinOp.xor Go.IntKind.u8 v4 a.2.2.1.1)) (Int.toNat (IntKind.wrap .i64 ((Int.tmod (IntKind.wrap .i64 a.2.1) (v2.1.length : Int)) + (IntKind.wrap .i64 (0 + 1))))) (Go.bits Go.BinOp.xor Go.IntKind.u8 v6 a.2.2.1.2.1)).length) then ((List.set (List.set v3 (Int.toNat (IntKind.wrap .i64 ((Int.tmod (IntKind.wrap .i64 a.2.1) (v2.1.length : Int)) + 0))) (Go.bits Go.BinOp.xor Go.IntKind.u8 v4 a.2.2.1.1)) (Int.toNat (IntKind.wrap .i64 ((Int.tmod (IntKind.wrap .i64 a.2.1) (v2.1.length : Int)) + (IntKind.wrap .i64 (0 + 1))))) (Go.bits Go.BinOp.xor Go.IntKind.u8 v6 a.2.2.1.2.1))[(Int.toNat (IntKind.wrap .i64 ((Int.tmod (IntKind.wrap .i64 a.2.1) (v2.1.length : Int)) + (IntKind.wrap .i64 ((IntKind.wrap .i64 (0 + 1)) + 1)))))]?).bind (fun (v9 : Int) =>
                 bif ((decide ((IntKind.wrap .i64 ((IntKind.wrap .i64 ((IntKind.wrap .i64 (0 + 1)) + 1)) + 1)) < 4)) && (decide ((IntKind.wrap .i64 ((Int.tmod (IntKind.wrap .i64 a.2.1) (v2.1.length : Int)) + (IntKind.wrap .i64 ((IntKind.wrap .i64 ((IntKind.wrap .i64 (0 + 1)) + 1)) + 1)))) < (v2.1.length : Int)))) then ((getI v2.1 (IntKind.wrap .i64 ((Int.tmod (IntKind.wrap .i64 a.2.1) (v2.1.length : Int)) + (IntKind.wrap .i64 ((IntKind.wrap .i64 ((IntKind.wrap .i64 (0 + 1)) + 1)) + 1)))))).bind (fun (v10 : Int) =>
                   bif (inI (IntKind.wrap .i64 ((Int.tmod (IntKind.wrap .i64 a.2.1) (v2.1.length : Int)) + (IntKind.wrap .i64 ((IntKind.wrap .i64 ((IntKind.wrap .i64 (0 + 1)) + 1)) + 1)))) (List.set (List.set (List.set v3 (Int.toNat (IntKind.wrap .i64 ((Int.tmod (IntKind.wrap .i64 a.2.1) (v2.1.length : Int)) + 0))) (Go.bits Go.BinOp.xor Go.IntKind.u8 v4 a.2.2.1.1)) (Int.toNat (IntKind.wrap .i64 ((Int.tmod (IntKind.wrap .i64 a.2.1) (v2.1.length : Int)) + (IntKind.wrap .i64 (0 + 1))))) (Go.bits Go.BinOp.xor Go.IntKind.u8 v6 a.2.2.1.2.1)) (Int.toNat (IntKind.wrap .i64 ((Int.tmod (IntKind.wrap .i64 a.2.1) (v2.1.length : Int)) + (IntKind.wrap .i64 ((IntKind.wrap .i64 (0 + 1)) + 1))))) (Go.bits Go.BinOp.xor Go.IntKind.u8 v8 a.2.2.1.2.2.1)).length) then ((List.set (List.set (List.set v3 (Int.toNat (IntKind.wrap .i64 ((Int.tmod (IntKind.wrap .i64 a.2.1) (v2.1.length : Int)) + 0))) (Go.bits Go.BinOp.xor Go.IntKind.u8 v4 a.2.2.1.1)) (Int.toNat (IntKind.wrap .i64 ((Int.tmod (IntKind.wrap .i64 a.2.1) (v2.1.length : Int)) + (IntKind.wrap .i64 (0 + 1))))) (Go.bits Go.BinOp.xor Go.IntKind.u8 v6 a.2.2.1.2.1)) (Int.toNat (IntKind.wrap .i64 ((Int.tmod (IntKind.wrap .i64 a.2.1) (v2.1.length : Int)) + (IntKind.wrap .i64 ((IntKind.wrap .i64 (0 + 1)) + 1))))) (Go.bits Go.BinOp.xor Go.IntKind.u8 v8 a.2.2.1.2.2.1))[(Int.toNat (IntKind.wrap .i64 ((Int.tmod (IntKind.wrap .i64 a.2.1) (v2.1.length : Int)) + (IntKind.wrap .i64 ((IntKind.wrap .i64 ((IntKind.wrap .i64 (0 + 1)) + 1)) + 1)))))]?).bind (fun (v11 : Int) =>
                     bif ((decide ((IntKind.wrap .i64 ((IntKind.wrap .i64 ((IntKind.wrap .i64 ((IntKind.wrap .i64 (0 + 1)) + 1)) + 1)) + 1)) < 4)) && (decide ((IntKind.wrap .i64 ((Int.tmod (IntKind.wrap .i64 a.2.1) (v2.1.length : Int)) + (IntKind.wrap .i64 ((IntKind.wrap .i64 ((IntKind.wrap .i64 ((IntKind.wrap .i64 (0 + 1)) + 1)) + 1)) + 1)))) < (v2.1.length : Int)))) then ((getI v2.1 (IntKind.wrap .i64 ((Int.tmod (IntKind.wrap .i64 a.2.1) (v2.1.length : Int)) + (IntKind.wrap .i64 ((IntKind.wrap .i64 ((IntKind.wrap .i64 ((IntKind.wrap .i64 (0 + 1)) + 1)) + 1)) + 1)))))).bind (fun (v12 : Int) =>
                       none)
                     else some (((((false || (a.2.2.1.1 != 0)) || (a.2.2.1.2.1 != 0)) || (a.2.2.1.2.2.1 != 0)) || (a.2.2.1.2.2.2.1 != 0)), ((List.set (List.set (List.set (List.set v3 (Int.toNat (IntKind.wrap .i64 ((Int.tmod (IntKind.wrap .i64 a.2.1) (v2.1.length : Int)) + 0))) (Go.bits Go.BinOp.xor Go.IntKind.u8 v4 a.2.2.1.1)) (Int.toNat (IntKind.wrap .i64 ((Int.tmod (IntKind.wrap .i64 a.2.1) (v2.1.length : Int)) + (IntKind.wrap .i64 (0 + 1))))) (Go.bits Go.BinOp.xor Go.IntKind.u8 v6 a.2.2.1.2.1)) (Int.toNat (IntKind.wrap .i64 ((Int.tmod (IntKind.wrap .i64 a.2.1) (v2.1.length : Int)) + (IntKind.wrap .i64 ((IntKind.wrap .i64 (0 + 1)) + 1))))) (Go.bits Go.BinOp.xor Go.IntKind.u8 v8 a.2.2.1.2.2.1)) (Int.toNat (IntKind.wrap .i64 ((Int.tmod (IntKind.wrap .i64 a.2.1) (v2.1.length : Int)) + (IntKind.wrap .i64 ((IntKind.wrap .i64 ((IntKind.wrap .i64 (0 + 1)) + 1)) + 1))))) (Go.bits Go.BinOp.xor Go.IntKind.u8 v10 a.2.2.1.2.2.2.1)), ())))
                   else none)
                 else some ((((false || (a.2.2.1.1 != 0)) || (a.2.2.1.2.1 != 0)) || (a.2.2.1.2.2.1 != 0)), ((List.set (List.set (List.set v3 (Int.toNat (IntKind.wrap .i64 ((Int.tmod (IntKind.wrap .i64 a.2.1) (v2.1.length : Int)) + 0))) (Go.bits Go.BinOp.xor Go.IntKind.u8 v4 a.2.2.1.1)) (Int.toNat (IntKind.wrap .i64 ((Int.tmod (IntKind.wrap .i64 a.2.1) (v2.1.length : Int)) + (IntKind.wrap .i64 (0 + 1))))) (Go.bits Go.BinOp.xor Go.IntKind.u8 v6 a.2.2.1.2.1)) (Int.toNat (IntKind.wrap .i64 ((Int.tmod (IntKind.wrap .i64 a.2.1) (v2.1.length : Int)) + (IntKind.wrap .i64 ((IntKind.wrap .i64 (0 + 1)) + 1))))) (Go.bits Go.BinOp.xor Go.IntKind.u8 v8 a.2.2.1.2.2.1)), ())))
               else none)
             else some (((false || (a.2.2.1.1 != 0)) || (a.2.2.1.2.1 != 0)), ((List.set (List.set v3 (Int.toNat (IntKind.wrap .i64 ((Int.tmod (IntKind.wrap .i64 a.2.1) (v2.1.length : Int)) + 0))) (Go.bits Go.BinOp.xor Go.IntKind.u8 v4 a.2.2.1.1)) (Int.toNat (IntKind.wrap .i64 ((Int.tmod (IntKind.wrap .i64 a.2.1) (v2.1.length : Int)) + (IntKind.wrap .i64 (0 + 1))))) (Go.bits Go.BinOp.xor Go.IntKind.u8 v6 a.2.2.1.2.1)), ())))
           else none)
         else some ((false || (a.2.2.1.1 != 0)), ((List.set v3 (Int.toNat (IntKind.wrap .i64 ((Int.tmod (IntKind.wrap .i64 a.2.1) (v2.1.length : Int)) + 0))) (Go.bits Go.BinOp.xor Go.IntKind.u8 v4 a.2.2.1.1)), ())))
       else none)
     else some (false, (v3, ()))).bind (fun (v13 : (Bool × ((List Int) × Unit))) =>
     ((g_frame_Decode v13.2)).bind (fun (v14 : (FrameT × (Int × Unit))) =>
      bif (decide ((v2.1.length : Int) = 0)) then none
      else ((subI v2.1 0 (Int.tmod (IntKind.wrap .i64 a.2.2.2.1) (v2.1.length : Int)))).bind (fun (v15 : (List Int)) =>
       ((g_frame_Decode (v15, ()))).bind (fun (v16 : (FrameT × (Int × Unit))) =>
        ((appX [] v2.1 1)).bind (fun (v17 : (List Int)) =>
         ((appX v17 a.2.2.2.2.1 1)).bind (fun (v18 : (List Int)) =>
          ((g_frame_Decode (v18, ()))).bind (fun (v19 : (FrameT × (Int × Unit))) =>
           some ((((v14.2.1 == 0) == (!v13.1)) && (v16.2.1 == 2)) && (((a.2.2.2.2.1.length : Int) == 0) || (v19.2.1 == 2)))))))))))))
noncomputable def tc5 : TCn := ⟨[shFrame, (.int .u8), (.cons (.int .u8) (.cons (.int .u8) (.cons (.int .u8) (.cons (.int .u8) .nil)))), (.int .u8), (.slice 1 (.int .u8))], [.bool], g_law04_FrameTurned⟩
noncomputable def T5 := (5, tc5) :: T4
theorem t5 : Tbl Try.prog T5 := Tbl.add t4 hn 5 5 tc5 (by kernel_rfl) (fun a => by kernel_rfl)
noncomputable def g_ref06_id (a : (Int × Unit)) : Option Bool :=
 some ((decide (a.1 > 0)) && (decide (a.1 ≤ 1000000000000)))
noncomputable def tc47 : TCn := ⟨[(.int .i64)], [.bool], g_ref06_id⟩
noncomputable def T47 := (47, tc47) :: T5
theorem t47 : Tbl Try.prog T47 := Tbl.add t5 hn 5 47 tc47 (by kernel_rfl) (fun a => by kernel_rfl)
noncomputable def g_ref06_Right (a : (RecT × Unit)) : Option Bool :=
 (
  bif (a.1.1 == 1) then ((g_ref06_id (a.1.2.1, ()))).bind (fun (v1 : Bool) =>
    some (((((((((v1 && (decide (a.1.2.2.1 ≥ 0))) && (decide (a.1.2.2.1 < 8))) && (decide (a.1.2.2.2.1 ≥ 0))) && (decide (a.1.2.2.2.1 < 8))) && (decide (a.1.2.2.2.2.1 ≥ 1))) && (decide (a.1.2.2.2.2.1 ≤ 2))) && (decide (a.1.2.2.2.2.2.1 > 0))) && (decide (a.1.2.2.2.2.2.2.1 > 0))), (a.1.1, (a.1.2.1, (a.1.2.2.1, (a.1.2.2.2.1, (a.1.2.2.2.2.1, (a.1.2.2.2.2.2.1, (a.1.2.2.2.2.2.2.1, (0, (0, (0, (false, (0, (0, ())))))))))))))))
  else (
   bif (a.1.1 == 2) then ((g_ref06_id (a.1.2.1, ()))).bind (fun (v2 : Bool) =>
     some (((v2 && (decide (a.1.2.2.2.2.2.1 > 0))) && (decide (a.1.2.2.2.2.2.2.1 > 0))), (a.1.1, (a.1.2.1, (0, (0, (0, (a.1.2.2.2.2.2.1, (a.1.2.2.2.2.2.2.1, (0, (0, (0, (false, (0, (0, ())))))))))))))))
   else (
    bif (a.1.1 == 3) then ((g_ref06_id (a.1.2.1, ()))).bind (fun (v3 : Bool) =>
      some (v3, (a.1.1, (a.1.2.1, (0, (0, (0, (0, (0, (0, (0, (0, (false, (0, (0, ())))))))))))))))
    else (
     bif (a.1.1 == 4) then (
       bif ((a.1.2.2.2.1 == (-1)) && ((a.1.2.2.2.2.2.2.2.1 != 0) || (a.1.2.2.2.2.2.2.2.2.1 != 0))) then some (false, ())
       else some ((((((((decide (a.1.2.2.1 ≥ 0)) && (decide (a.1.2.2.1 < 8))) && (decide (a.1.2.2.2.1 ≥ (-1)))) && (decide (a.1.2.2.2.1 < 8))) && (decide (a.1.2.2.2.2.2.2.2.1 ≥ 0))) && (decide (a.1.2.2.2.2.2.2.2.2.1 ≥ 0))) && (decide (a.1.2.2.2.2.2.2.2.2.2.1 ≥ 0))), ())).bind (fun (v4 : (Bool × Unit)) =>
       some (v4.1, (a.1.1, (0, (a.1.2.2.1, (a.1.2.2.2.1, (0, (0, (0, (a.1.2.2.2.2.2.2.2.1, (a.1.2.2.2.2.2.2.2.2.1, (a.1.2.2.2.2.2.2.2.2.2.1, (false, (0, (0, ())))))))))))))))
     else (
      bif (a.1.1 == 5) then some (true, (a.1.1, (0, (0, (0, (0, (0, (0, (0, (0, (0, (a.1.2.2.2.2.2.2.2.2.2.2.1, (0, (0, ()))))))))))))))
      else (
       bif (a.1.1 == 6) then (
         bif ((((decide (a.1.2.2.2.2.2.2.2.2.2.2.2.1 > 0)) && (decide (a.1.2.2.2.2.2.2.2.2.2.2.2.1 ≤ 1000000000))) && (decide (a.1.2.2.2.2.2.2.2.2.2.2.2.2.1 ≥ 1))) && (decide (a.1.2.2.2.2.2.2.2.2.2.2.2.2.1 ≤ 6))) then ((g_ref06_id (a.1.2.1, ()))).bind (fun (v5 : Bool) =>
           some v5)
         else some false).bind (fun (v6 : Bool) =>
         (
          bif ((a.1.2.2.2.2.2.2.2.2.2.2.2.2.1 == 3) || (a.1.2.2.2.2.2.2.2.2.2.2.2.2.1 == 5)) then some ((v6 && (decide (a.1.2.2.2.2.2.1 > 0))), (a.1.1, (a.1.2.1, (0, (0, (0, (a.1.2.2.2.2.2.1, (0, (0, (0, (0, (false, a.1.2.2.2.2.2.2.2.2.2.2.2))))))))))))
          else some (v6, (a.1.1, (a.1.2.1, (0, (0, (0, (0, (0, (0, (0, (0, (false, a.1.2.2.2.2.2.2.2.2.2.2.2))))))))))))).bind (fun (v7 : (Bool × RecT)) =>
          (
           bif (a.1.2.2.2.2.2.2.2.2.2.2.2.2.1 == 5) then some ((v7.1 && (decide (a.1.2.2.2.2.2.2.1 > 0))), (v7.2.1, (v7.2.2.1, (v7.2.2.2.1, (v7.2.2.2.2.1, (v7.2.2.2.2.2.1, (v7.2.2.2.2.2.2.1, (a.1.2.2.2.2.2.2.1, v7.2.2.2.2.2.2.2.2))))))))
           else some v7).bind (fun (v8 : (Bool × RecT)) =>
           some v8)))
       else some (false, (a.1.1, (0, (0, (0, (0, (0, (0, (0, (0, (0, (false, (0, (0, ()))))))))))))))).bind (fun (v9 : (Bool × RecT)) =>
       some v9)).bind (fun (v10 : (Bool × RecT)) =>
      some v10)).bind (fun (v11 : (Bool × RecT)) =>
     some v11)).bind (fun (v12 : (Bool × RecT)) =>
    some v12)).bind (fun (v13 : (Bool × RecT)) =>
   some v13)).bind (fun (v14 : (Bool × RecT)) =>
  some (v14.1 && ((a.1.1 == v14.2.1) && ((a.1.2.1 == v14.2.2.1) && ((a.1.2.2.1 == v14.2.2.2.1) && ((a.1.2.2.2.1 == v14.2.2.2.2.1) && ((a.1.2.2.2.2.1 == v14.2.2.2.2.2.1) && ((a.1.2.2.2.2.2.1 == v14.2.2.2.2.2.2.1) && ((a.1.2.2.2.2.2.2.1 == v14.2.2.2.2.2.2.2.1) && ((a.1.2.2.2.2.2.2.2.1 == v14.2.2.2.2.2.2.2.2.1) && ((a.1.2.2.2.2.2.2.2.2.1 == v14.2.2.2.2.2.2.2.2.2.1) && ((a.1.2.2.2.2.2.2.2.2.2.1 == v14.2.2.2.2.2.2.2.2.2.2.1) && ((a.1.2.2.2.2.2.2.2.2.2.2.1 == v14.2.2.2.2.2.2.2.2.2.2.2.1) && ((a.1.2.2.2.2.2.2.2.2.2.2.2.1 == v14.2.2.2.2.2.2.2.2.2.2.2.2.1) && ((a.1.2.2.2.2.2.2.2.2.2.2.2.2.1 == v14.2.2.2.2.2.2.2.2.2.2.2.2.2.1) && true)))))))))))))))
noncomputable def tc29 : TCn := ⟨[shRec], [.bool], g_ref06_Right⟩
noncomputable def T29 := (29, tc29) :: T47
theorem t29 : Tbl Try.prog T29 := Tbl.add t47 hn 5 29 tc29 (by kernel_rfl) (fun a => by kernel_rfl)
noncomputable def g_rec_fields (a : (RecT × Unit)) : Option RecT :=
 (
  (
   (
    bif (a.1.1 == 1) then some (.inl (a.1.1, (0, (a.1.2.2.1, (a.1.2.2.2.1, (a.1.2.2.2.2.1, (0, (0, (0, (0, (0, (false, (0, (0, ()))))))))))))))
    else bif (a.1.1 == 2) then some (.inl (a.1.1, (0, (0, (0, (0, (0, (0, (0, (0, (0, (false, (0, (0, ()))))))))))))))
    else bif (a.1.1 == 3) then (some (.inl (a.1.1, (0, (0, (0, (0, (0, (0, (0, (0, (0, (false, (0, (0, ()))))))))))))))).map .inr
    else bif (a.1.1 == 4) then ((some (a.1.1, (0, (a.1.2.2.1, (a.1.2.2.2.1, (0, (0, (0, (a.1.2.2.2.2.2.2.2.1, (a.1.2.2.2.2.2.2.2.2.1, (a.1.2.2.2.2.2.2.2.2.2.1, (false, (0, (0, ())))))))))))))).map .inr).map .inr
    else bif (a.1.1 == 5) then ((some (a.1.1, (0, (0, (0, (0, (0, (0, (0, (0, (0, (a.1.2.2.2.2.2.2.2.2.2.2.1, (0, (0, ())))))))))))))).map .inr).map .inr
    else bif (a.1.1 == 6) then ((some (a.1.1, (a.1.2.1, (0, (0, (0, (a.1.2.2.2.2.2.1, (a.1.2.2.2.2.2.2.1, (0, (0, (0, (false, a.1.2.2.2.2.2.2.2.2.2.2.2)))))))))))).map .inr).map .inr
    else ((some (a.1.1, (0, (0, (0, (0, (0, (0, (0, (0, (0, (false, (0, (0, ())))))))))))))).map .inr).map .inr).bind (eX (fun (v1 : RecT) =>
    some (.inl (v1.1, (v1.2.1, (v1.2.2.1, (v1.2.2.2.1, (v1.2.2.2.2.1, (a.1.2.2.2.2.2.1, (a.1.2.2.2.2.2.2.1, v1.2.2.2.2.2.2.2))))))))))).bind (eX (fun (v2 : RecT) =>
   some (v2.1, (a.1.2.1, v2.2.2))))).bind (fun (v3 : RecT) =>
  some v3)
noncomputable def tc48 : TCn := ⟨[shRec], [shRec], g_rec_fields⟩
noncomputable def T48 := (48, tc48) :: T29
theorem t48 : Tbl Try.prog T48 := Tbl.add t29 hn 5 48 tc48 (by kernel_rfl) (fun a => by kernel_rfl)
noncomputable def g_rec_known (a : (Int × Unit)) : Option Bool :=
 some ((decide (a.1 ≥ 1)) && (decide (a.1 ≤ 1000000000000)))
noncomputable def tc49 : TCn := ⟨[(.int .i64)], [.bool], g_rec_known⟩
noncomputable def T49 := (49, tc49) :: T48
theorem t49 : Tbl Try.prog T49 := Tbl.add t48 hn 5 49 tc49 (by kernel_rfl) (fun a => by kernel_rfl)
noncomputable def g_rec_below (a : NextT) : Option Bool :=
 some ((decide (a.1 ≥ 0)) && (decide (a.1 < a.2.1)))
noncomputable def tc50 : TCn := ⟨[(.int .i64), (.int .i64)], [.bool], g_rec_below⟩
noncomputable def T50 := (50, tc50) :: T49
theorem t50 : Tbl Try.prog T50 := Tbl.add t49 hn 5 50 tc50 (by kernel_rfl) (fun a => by kernel_rfl)
noncomputable def g_rec_sized (a : (RecT × Unit)) : Option Bool :=
 some ((decide (a.1.2.2.2.2.2.1 ≥ 1)) && (decide (a.1.2.2.2.2.2.2.1 ≥ 1)))
noncomputable def tc51 : TCn := ⟨[shRec], [.bool], g_rec_sized⟩
noncomputable def T51 := (51, tc51) :: T50
theorem t51 : Tbl Try.prog T51 := Tbl.add t50 hn 5 51 tc51 (by kernel_rfl) (fun a => by kernel_rfl)
noncomputable def g_rec_event (a : (RecT × Unit)) : Option Bool :=
 (
  bif ((decide (a.1.2.2.2.2.2.2.2.2.2.2.2.1 < 1)) || (decide (a.1.2.2.2.2.2.2.2.2.2.2.2.1 > 1000000000))) then some true
  else ((g_rec_known (a.1.2.1, ()))).bind (fun (v1 : Bool) =>
   some (!v1))).bind (fun (v2 : Bool) =>
  bif v2 then some false
  else bif (a.1.2.2.2.2.2.2.2.2.2.2.2.2.1 == 3) then some ((decide (a.1.2.2.2.2.2.1 ≥ 1)) && (a.1.2.2.2.2.2.2.1 == 0))
  else bif (a.1.2.2.2.2.2.2.2.2.2.2.2.2.1 == 5) then ((g_rec_sized a)).bind (fun (v3 : Bool) =>
    some v3)
  else (
   bif (a.1.2.2.2.2.2.2.2.2.2.2.2.2.1 == 1) then some ((a.1.2.2.2.2.2.2.2.2.2.2.2.2.1 == 1), ())
   else (
    bif (a.1.2.2.2.2.2.2.2.2.2.2.2.2.1 == 2) then some ((a.1.2.2.2.2.2.2.2.2.2.2.2.2.1 == 2), ())
    else (
     bif (a.1.2.2.2.2.2.2.2.2.2.2.2.2.1 == 4) then some ((a.1.2.2.2.2.2.2.2.2.2.2.2.2.1 == 4), ())
     else some ((a.1.2.2.2.2.2.2.2.2.2.2.2.2.1 == 6), ())).bind (fun (v4 : (Bool × Unit)) =>
     some v4)).bind (fun (v5 : (Bool × Unit)) =>
    some v5)).bind (fun (v6 : (Bool × Unit)) =>
   bif v6.1 then some ((a.1.2.2.2.2.2.1 == 0) && (a.1.2.2.2.2.2.2.1 == 0))
   else some false))
noncomputable def tc52 : TCn := ⟨[shRec], [.bool], g_rec_event⟩
noncomputable def T52 := (52, tc52) :: T51
theorem t52 : Tbl Try.prog T52 := Tbl.add t51 hn 5 52 tc52 (by kernel_rfl) (fun a => by kernel_rfl)
noncomputable def g_rec_Right (a : (RecT × Unit)) : Option Bool :=
 ((g_rec_fields a)).bind (fun (v1 : RecT) =>
  bif (!((a.1.1 == v1.1) && ((a.1.2.1 == v1.2.1) && ((a.1.2.2.1 == v1.2.2.1) && ((a.1.2.2.2.1 == v1.2.2.2.1) && ((a.1.2.2.2.2.1 == v1.2.2.2.2.1) && ((a.1.2.2.2.2.2.1 == v1.2.2.2.2.2.1) && ((a.1.2.2.2.2.2.2.1 == v1.2.2.2.2.2.2.1) && ((a.1.2.2.2.2.2.2.2.1 == v1.2.2.2.2.2.2.2.1) && ((a.1.2.2.2.2.2.2.2.2.1 == v1.2.2.2.2.2.2.2.2.1) && ((a.1.2.2.2.2.2.2.2.2.2.1 == v1.2.2.2.2.2.2.2.2.2.1) && ((a.1.2.2.2.2.2.2.2.2.2.2.1 == v1.2.2.2.2.2.2.2.2.2.2.1) && ((a.1.2.2.2.2.2.2.2.2.2.2.2.1 == v1.2.2.2.2.2.2.2.2.2.2.2.1) && ((a.1.2.2.2.2.2.2.2.2.2.2.2.2.1 == v1.2.2.2.2.2.2.2.2.2.2.2.2.1) && true)))))))))))))) then some false
  else bif (a.1.1 == 1) then ((g_rec_known (a.1.2.1, ()))).bind (fun (v2 : Bool) =>
    (
     bif v2 then ((g_rec_below (a.1.2.2.1, (8, ())))).bind (fun (v3 : Bool) =>
       some v3)
     else some false).bind (fun (v4 : Bool) =>
     (
      bif v4 then ((g_rec_below (a.1.2.2.2.1, (8, ())))).bind (fun (v5 : Bool) =>
        some v5)
      else some false).bind (fun (v6 : Bool) =>
      (
       bif (v6 && ((a.1.2.2.2.2.1 == 1) || (a.1.2.2.2.2.1 == 2))) then ((g_rec_sized a)).bind (fun (v7 : Bool) =>
         some v7)
       else some false).bind (fun (v8 : Bool) =>
       some v8))))
  else bif (a.1.1 == 2) then ((g_rec_known (a.1.2.1, ()))).bind (fun (v9 : Bool) =>
    (
     bif v9 then ((g_rec_sized a)).bind (fun (v10 : Bool) =>
       some v10)
     else some false).bind (fun (v11 : Bool) =>
     some v11))
  else bif (a.1.1 == 3) then ((g_rec_known (a.1.2.1, ()))).bind (fun (v12 : Bool) =>
    some v12)
  else bif (a.1.1 == 4) then ((g_rec_below (a.1.2.2.1, (8, ())))).bind (fun (v13 : Bool) =>
    (
     bif v13 then (
       bif (((a.1.2.2.2.1 == (-1)) && (a.1.2.2.2.2.2.2.2.1 == 0)) && (a.1.2.2.2.2.2.2.2.2.1 == 0)) then some true
       else ((g_rec_below (a.1.2.2.2.1, (8, ())))).bind (fun (v14 : Bool) =>
        some v14)).bind (fun (v15 : Bool) =>
       some v15)
     else some false).bind (fun (v16 : Bool) =>
     some (v16 && (decide ((if (false = true) then (if (a.1.2.2.2.2.2.2.2.2.2.1 > (if (false = true) then (if (a.1.2.2.2.2.2.2.2.2.1 > a.1.2.2.2.2.2.2.2.1) then a.1.2.2.2.2.2.2.2.2.1 else a.1.2.2.2.2.2.2.2.1) else (if (a.1.2.2.2.2.2.2.2.2.1 < a.1.2.2.2.2.2.2.2.1) then a.1.2.2.2.2.2.2.2.2.1 else a.1.2.2.2.2.2.2.2.1))) then a.1.2.2.2.2.2.2.2.2.2.1 else (if (false = true) then (if (a.1.2.2.2.2.2.2.2.2.1 > a.1.2.2.2.2.2.2.2.1) then a.1.2.2.2.2.2.2.2.2.1 else a.1.2.2.2.2.2.2.2.1) else (if (a.1.2.2.2.2.2.2.2.2.1 < a.1.2.2.2.2.2.2.2.1) then a.1.2.2.2.2.2.2.2.2.1 else a.1.2.2.2.2.2.2.2.1))) else (if (a.1.2.2.2.2.2.2.2.2.2.1 < (if (false = true) then (if (a.1.2.2.2.2.2.2.2.2.1 > a.1.2.2.2.2.2.2.2.1) then a.1.2.2.2.2.2.2.2.2.1 else a.1.2.2.2.2.2.2.2.1) else (if (a.1.2.2.2.2.2.2.2.2.1 < a.1.2.2.2.2.2.2.2.1) then a.1.2.2.2.2.2.2.2.2.1 else a.1.2.2.2.2.2.2.2.1))) then a.1.2.2.2.2.2.2.2.2.2.1 else (if (false = true) then (if (a.1.2.2.2.2.2.2.2.2.1 > a.1.2.2.2.2.2.2.2.1) then a.1.2.2.2.2.2.2.2.2.1 else a.1.2.2.2.2.2.2.2.1) else (if (a.1.2.2.2.2.2.2.2.2.1 < a.1.2.2.2.2.2.2.2.1) then a.1.2.2.2.2.2.2.2.2.1 else a.1.2.2.2.2.2.2.2.1)))) ≥ 0)))))
  else bif (a.1.1 == 5) then some true
  else bif (a.1.1 == 6) then ((g_rec_event a)).bind (fun (v17 : Bool) =>
    some v17)
  else some false)
noncomputable def tc32 : TCn := ⟨[shRec], [.bool], g_rec_Right⟩
noncomputable def T32 := (32, tc32) :: T52
theorem t32 : Tbl Try.prog T32 := Tbl.add t52 hn 5 32 tc32 (by kernel_rfl) (fun a => by kernel_rfl)
noncomputable def g_rec_Pack (a : (RecT × Unit)) : Option ((Int × NoteT) × (Int × Unit)) :=
 ((g_rec_Right a)).bind (fun (v1 : Bool) =>
  bif (!v1) then some ((0, (0, (0, (0, (0, (0, ())))))), (1, ()))
  else bif (a.1.1 == 1) then some ((a.1.2.1, (a.1.2.2.1, (a.1.2.2.2.1, (a.1.2.2.2.2.1, (a.1.2.2.2.2.2.1, (a.1.2.2.2.2.2.2.1, ())))))), (0, ()))
  else bif (a.1.1 == 4) then some ((a.1.2.2.1, (a.1.2.2.2.1, (a.1.2.2.2.2.2.2.2.1, (a.1.2.2.2.2.2.2.2.2.1, (a.1.2.2.2.2.2.2.2.2.2.1, (0, ())))))), (0, ()))
  else bif (a.1.1 == 5) then bif a.1.2.2.2.2.2.2.2.2.2.2.1 then some ((1, (0, (0, (0, (0, (0, ())))))), (0, ()))
   else some ((0, (0, (0, (0, (0, (0, ())))))), (0, ()))
  else bif (a.1.1 == 6) then some ((a.1.2.2.2.2.2.2.2.2.2.2.2.1, (a.1.2.2.2.2.2.2.2.2.2.2.2.2.1, (a.1.2.1, (a.1.2.2.2.2.2.1, (a.1.2.2.2.2.2.2.1, (0, ())))))), (0, ()))
  else some ((a.1.2.1, (a.1.2.2.2.2.2.1, (a.1.2.2.2.2.2.2.1, (0, (0, (0, ())))))), (0, ())))
noncomputable def tc30 : TCn := ⟨[shRec], [(.cons (.int .i64) shNote), (.int .i64)], g_rec_Pack⟩
noncomputable def T30 := (30, tc30) :: T32
theorem t30 : Tbl Try.prog T30 := Tbl.add t32 hn 5 30 tc30 (by kernel_rfl) (fun a => by kernel_rfl)
noncomputable def g_rec_Frame (a : (RecT × NextT)) : Option (FrameT × (Int × Unit)) :=
 ((g_rec_Pack (a.1, ()))).bind (fun (v1 : ((Int × NoteT) × (Int × Unit))) =>
  bif (v1.2.1 != 0) then some ((0, (0, (0, ((0, (0, (0, (0, (0, (0, ())))))), ())))), v1.2)
  else some ((a.2.2.1, (a.2.1, (a.1.1, (v1.1, ())))), (0, ())))
noncomputable def tc31 : TCn := ⟨[shRec, (.int .i64), (.int .i64)], [shFrame, (.int .i64)], g_rec_Frame⟩
noncomputable def T31 := (31, tc31) :: T30
theorem t31 : Tbl Try.prog T31 := Tbl.add t30 hn 5 31 tc31 (by kernel_rfl) (fun a => by kernel_rfl)
noncomputable def g_rec_OfNote (a : (NoteT × Unit)) : Option RecT :=
 some (6, (a.1.2.2.1, (0, (0, (0, (a.1.2.2.2.1, (a.1.2.2.2.2.1, (0, (0, (0, (false, (a.1.1, (a.1.2.1, ())))))))))))))
noncomputable def tc33 : TCn := ⟨[shNote], [shRec], g_rec_OfNote⟩
noncomputable def T33 := (33, tc33) :: T31
theorem t33 : Tbl Try.prog T33 := Tbl.add t31 hn 5 33 tc33 (by kernel_rfl) (fun a => by kernel_rfl)
noncomputable def g_ref06_OfNote (a : (NoteT × Unit)) : Option RecT :=
 some (6, (a.1.2.2.1, (0, (0, (0, (a.1.2.2.2.1, (a.1.2.2.2.2.1, (0, (0, (0, (false, (a.1.1, (a.1.2.1, ())))))))))))))
noncomputable def tc34 : TCn := ⟨[shNote], [shRec], g_ref06_OfNote⟩
noncomputable def T34 := (34, tc34) :: T33
theorem t34 : Tbl Try.prog T34 := Tbl.add t33 hn 5 34 tc34 (by kernel_rfl) (fun a => by kernel_rfl)
noncomputable def g_ref06_Pack (a : (RecT × Unit)) : Option (Int × NoteT) :=
 bif (a.1.1 == 1) then some (a.1.2.1, (a.1.2.2.1, (a.1.2.2.2.1, (a.1.2.2.2.2.1, (a.1.2.2.2.2.2.1, (a.1.2.2.2.2.2.2.1, ()))))))
 else bif (a.1.1 == 2) then some (a.1.2.1, (a.1.2.2.2.2.2.1, (a.1.2.2.2.2.2.2.1, (0, (0, (0, ()))))))
 else bif (a.1.1 == 3) then some (a.1.2.1, (0, (0, (0, (0, (0, ()))))))
 else bif (a.1.1 == 4) then some (a.1.2.2.1, (a.1.2.2.2.1, (a.1.2.2.2.2.2.2.2.1, (a.1.2.2.2.2.2.2.2.2.1, (a.1.2.2.2.2.2.2.2.2.2.1, (0, ()))))))
 else bif (a.1.1 == 6) then some (a.1.2.2.2.2.2.2.2.2.2.2.2.1, (a.1.2.2.2.2.2.2.2.2.2.2.2.2.1, (a.1.2.1, (a.1.2.2.2.2.2.1, (a.1.2.2.2.2.2.2.1, (0, ()))))))
 else bif a.1.2.2.2.2.2.2.2.2.2.2.1 then some (1, (0, (0, (0, (0, (0, ()))))))
 else some (0, (0, (0, (0, (0, (0, ()))))))
noncomputable def tc35 : TCn := ⟨[shRec], [(.cons (.int .i64) shNote)], g_ref06_Pack⟩
noncomputable def T35 := (35, tc35) :: T34
theorem t35 : Tbl Try.prog T35 := Tbl.add t34 hn 5 35 tc35 (by kernel_rfl) (fun a => by kernel_rfl)
noncomputable def g_rec_Unpack (a : (Int × ((Int × NoteT) × Unit))) : Option (RecT × (Int × Unit)) :=
 (
  bif (a.1 == 1) then some (a.1, (a.2.1.1, (a.2.1.2.1, (a.2.1.2.2.1, (a.2.1.2.2.2.1, (a.2.1.2.2.2.2.1, (a.2.1.2.2.2.2.2.1, (0, (0, (0, (false, (0, (0, ())))))))))))))
  else (
   bif (a.1 == 2) then some ((a.1 == 2), ())
   else some ((a.1 == 3), ())).bind (fun (v1 : (Bool × Unit)) =>
   (
    bif v1.1 then some (a.1, (a.2.1.1, (0, (0, (0, (a.2.1.2.1, (a.2.1.2.2.1, (0, (0, (0, (false, (0, (0, ())))))))))))))
    else (
     bif (a.1 == 4) then some (a.1, (0, (a.2.1.1, (a.2.1.2.1, (0, (0, (0, (a.2.1.2.2.1, (a.2.1.2.2.2.1, (a.2.1.2.2.2.2.1, (false, (0, (0, ())))))))))))))
     else (
      bif (a.1 == 5) then some (a.1, (0, (0, (0, (0, (0, (0, (0, (0, (0, ((a.2.1.1 == 1), (0, (0, ())))))))))))))
      else (
       bif (a.1 == 6) then some (a.1, (a.2.1.2.2.1, (0, (0, (0, (a.2.1.2.2.2.1, (a.2.1.2.2.2.2.1, (0, (0, (0, (false, (a.2.1.1, (a.2.1.2.1, ())))))))))))))
       else some (a.1, (0, (0, (0, (0, (0, (0, (0, (0, (0, (false, (0, (0, ())))))))))))))).bind (fun (v2 : RecT) =>
       some v2)).bind (fun (v3 : RecT) =>
      some v3)).bind (fun (v4 : RecT) =>
     some v4)).bind (fun (v5 : RecT) =>
    some v5))).bind (fun (v6 : RecT) =>
  ((g_rec_Pack (v6, ()))).bind (fun (v7 : ((Int × NoteT) × (Int × Unit))) =>
   bif ((v7.2.1 != 0) || (!((v7.1.1 == a.2.1.1) && ((v7.1.2.1 == a.2.1.2.1) && ((v7.1.2.2.1 == a.2.1.2.2.1) && ((v7.1.2.2.2.1 == a.2.1.2.2.2.1) && ((v7.1.2.2.2.2.1 == a.2.1.2.2.2.2.1) && ((v7.1.2.2.2.2.2.1 == a.2.1.2.2.2.2.2.1) && true)))))))) then some ((0, (0, (0, (0, (0, (0, (0, (0, (0, (0, (false, (0, (0, ()))))))))))))), (2, ()))
   else some (v6, (0, ()))))
noncomputable def tc36 : TCn := ⟨[(.int .i64), (.cons (.int .i64) shNote)], [shRec, (.int .i64)], g_rec_Unpack⟩
noncomputable def T36 := (36, tc36) :: T35
theorem t36 : Tbl Try.prog T36 := Tbl.add t35 hn 5 36 tc36 (by kernel_rfl) (fun a => by kernel_rfl)
noncomputable def g_ref06_Unpack (a : (Int × ((Int × NoteT) × Unit))) : Option (RecT × (Bool × Unit)) :=
 bif (a.1 == 1) then ((g_ref06_Right ((a.1, (a.2.1.1, (a.2.1.2.1, (a.2.1.2.2.1, (a.2.1.2.2.2.1, (a.2.1.2.2.2.2.1, (a.2.1.2.2.2.2.2.1, (0, (0, (0, (false, (0, (0, ()))))))))))))), ()))).bind (fun (v1 : Bool) =>
   bif (!v1) then some ((0, (0, (0, (0, (0, (0, (0, (0, (0, (0, (false, (0, (0, ()))))))))))))), (false, ()))
   else some ((a.1, (a.2.1.1, (a.2.1.2.1, (a.2.1.2.2.1, (a.2.1.2.2.2.1, (a.2.1.2.2.2.2.1, (a.2.1.2.2.2.2.2.1, (0, (0, (0, (false, (0, (0, ()))))))))))))), (true, ())))
 else bif (a.1 == 2) then bif (a.2.1.2.2.2.1 != 0) then some ((0, (0, (0, (0, (0, (0, (0, (0, (0, (0, (false, (0, (0, ()))))))))))))), (false, ()))
  else bif (a.2.1.2.2.2.2.1 != 0) then some ((0, (0, (0, (0, (0, (0, (0, (0, (0, (0, (false, (0, (0, ()))))))))))))), (false, ()))
  else bif (a.2.1.2.2.2.2.2.1 != 0) then some ((0, (0, (0, (0, (0, (0, (0, (0, (0, (0, (false, (0, (0, ()))))))))))))), (false, ()))
  else ((g_ref06_Right ((a.1, (a.2.1.1, (0, (0, (0, (a.2.1.2.1, (a.2.1.2.2.1, (0, (0, (0, (false, (0, (0, ()))))))))))))), ()))).bind (fun (v2 : Bool) =>
   bif (!v2) then some ((0, (0, (0, (0, (0, (0, (0, (0, (0, (0, (false, (0, (0, ()))))))))))))), (false, ()))
   else some ((a.1, (a.2.1.1, (0, (0, (0, (a.2.1.2.1, (a.2.1.2.2.1, (0, (0, (0, (false, (0, (0, ()))))))))))))), (true, ())))
 else bif (a.1 == 3) then bif (a.2.1.2.1 != 0) then some ((0, (0, (0, (0, (0, (0, (0, (0, (0, (0, (false, (0, (0, ()))))))))))))), (false, ()))
  else bif (a.2.1.2.2.1 != 0) then some ((0, (0, (0, (0, (0, (0, (0, (0, (0, (0, (false, (0, (0, ()))))))))))))), (false, ()))
  else bif (a.2.1.2.2.2.1 != 0) then some ((0, (0, (0, (0, (0, (0, (0, (0, (0, (0, (false, (0, (0, ()))))))))))))), (false, ()))
  else bif (a.2.1.2.2.2.2.1 != 0) then some ((0, (0, (0, (0, (0, (0, (0, (0, (0, (0, (false, (0, (0, ()))))))))))))), (false, ()))
  else bif (a.2.1.2.2.2.2.2.1 != 0) then some ((0, (0, (0, (0, (0, (0, (0, (0, (0, (0, (false, (0, (0, ()))))))))))))), (false, ()))
  else ((g_ref06_Right ((a.1, (a.2.1.1, (0, (0, (0, (0, (0, (0, (0, (0, (false, (0, (0, ()))))))))))))), ()))).bind (fun (v3 : Bool) =>
   bif (!v3) then some ((0, (0, (0, (0, (0, (0, (0, (0, (0, (0, (false, (0, (0, ()))))))))))))), (false, ()))
   else some ((a.1, (a.2.1.1, (0, (0, (0, (0, (0, (0, (0, (0, (false, (0, (0, ()))))))))))))), (true, ())))
 else bif (a.1 == 4) then bif (a.2.1.2.2.2.2.2.1 != 0) then some ((0, (0, (0, (0, (0, (0, (0, (0, (0, (0, (false, (0, (0, ()))))))))))))), (false, ()))
  else ((g_ref06_Right ((a.1, (0, (a.2.1.1, (a.2.1.2.1, (0, (0, (0, (a.2.1.2.2.1, (a.2.1.2.2.2.1, (a.2.1.2.2.2.2.1, (false, (0, (0, ()))))))))))))), ()))).bind (fun (v4 : Bool) =>
   bif (!v4) then some ((0, (0, (0, (0, (0, (0, (0, (0, (0, (0, (false, (0, (0, ()))))))))))))), (false, ()))
   else some ((a.1, (0, (a.2.1.1, (a.2.1.2.1, (0, (0, (0, (a.2.1.2.2.1, (a.2.1.2.2.2.1, (a.2.1.2.2.2.2.1, (false, (0, (0, ()))))))))))))), (true, ())))
 else bif (a.1 == 5) then bif ((a.2.1.1 != 0) && (a.2.1.1 != 1)) then some ((0, (0, (0, (0, (0, (0, (0, (0, (0, (0, (false, (0, (0, ()))))))))))))), (false, ()))
  else bif (a.2.1.2.1 != 0) then some ((0, (0, (0, (0, (0, (0, (0, (0, (0, (0, (false, (0, (0, ()))))))))))))), (false, ()))
  else bif (a.2.1.2.2.1 != 0) then some ((0, (0, (0, (0, (0, (0, (0, (0, (0, (0, (false, (0, (0, ()))))))))))))), (false, ()))
  else bif (a.2.1.2.2.2.1 != 0) then some ((0, (0, (0, (0, (0, (0, (0, (0, (0, (0, (false, (0, (0, ()))))))))))))), (false, ()))
  else bif (a.2.1.2.2.2.2.1 != 0) then some ((0, (0, (0, (0, (0, (0, (0, (0, (0, (0, (false, (0, (0, ()))))))))))))), (false, ()))
  else bif (a.2.1.2.2.2.2.2.1 != 0) then some ((0, (0, (0, (0, (0, (0, (0, (0, (0, (0, (false, (0, (0, ()))))))))))))), (false, ()))
  else ((g_ref06_Right ((a.1, (0, (0, (0, (0, (0, (0, (0, (0, (0, ((a.2.1.1 != 0), (0, (0, ()))))))))))))), ()))).bind (fun (v5 : Bool) =>
   bif (!v5) then some ((0, (0, (0, (0, (0, (0, (0, (0, (0, (0, (false, (0, (0, ()))))))))))))), (false, ()))
   else some ((a.1, (0, (0, (0, (0, (0, (0, (0, (0, (0, ((a.2.1.1 != 0), (0, (0, ()))))))))))))), (true, ())))
 else bif (a.1 == 6) then bif (a.2.1.2.2.2.2.2.1 != 0) then some ((0, (0, (0, (0, (0, (0, (0, (0, (0, (0, (false, (0, (0, ()))))))))))))), (false, ()))
  else ((g_ref06_Right ((a.1, (a.2.1.2.2.1, (0, (0, (0, (a.2.1.2.2.2.1, (a.2.1.2.2.2.2.1, (0, (0, (0, (false, (a.2.1.1, (a.2.1.2.1, ()))))))))))))), ()))).bind (fun (v6 : Bool) =>
   bif (!v6) then some ((0, (0, (0, (0, (0, (0, (0, (0, (0, (0, (false, (0, (0, ()))))))))))))), (false, ()))
   else some ((a.1, (a.2.1.2.2.1, (0, (0, (0, (a.2.1.2.2.2.1, (a.2.1.2.2.2.2.1, (0, (0, (0, (false, (a.2.1.1, (a.2.1.2.1, ()))))))))))))), (true, ())))
 else ((g_ref06_Right ((a.1, (0, (0, (0, (0, (0, (0, (0, (0, (0, (false, (0, (0, ()))))))))))))), ()))).bind (fun (v7 : Bool) =>
  bif (!v7) then some ((0, (0, (0, (0, (0, (0, (0, (0, (0, (0, (false, (0, (0, ()))))))))))))), (false, ()))
  else some ((a.1, (0, (0, (0, (0, (0, (0, (0, (0, (0, (false, (0, (0, ()))))))))))))), (true, ())))
noncomputable def tc37 : TCn := ⟨[(.int .i64), (.cons (.int .i64) shNote)], [shRec, .bool], g_ref06_Unpack⟩
noncomputable def T37 := (37, tc37) :: T36
theorem t37 : Tbl Try.prog T37 := Tbl.add t36 hn 5 37 tc37 (by kernel_rfl) (fun a => by kernel_rfl)
noncomputable def g_rec_Of (a : (FrameT × Unit)) : Option (RecT × (Int × Unit)) :=
 ((g_rec_Unpack a.1.2.2)).bind (fun (v1 : (RecT × (Int × Unit))) =>
  some v1)
noncomputable def tc38 : TCn := ⟨[shFrame], [shRec, (.int .i64)], g_rec_Of⟩
noncomputable def T38 := (38, tc38) :: T37
theorem t38 : Tbl Try.prog T38 := Tbl.add t37 hn 5 38 tc38 (by kernel_rfl) (fun a => by kernel_rfl)
noncomputable def g_law06_awake (a : Unit) : Option Bool :=
 ((g_rec_Pack ((1, (7, (1, (2, (2, (5, (9, (0, (0, (0, (false, (0, (0, ()))))))))))))), ()))).bind (fun (v1 : ((Int × NoteT) × (Int × Unit))) =>
  ((g_rec_Unpack (1, (v1.1, ())))).bind (fun (v2 : (RecT × (Int × Unit))) =>
   ((g_rec_Frame ((1, (7, (1, (2, (2, (5, (9, (0, (0, (0, (false, (0, (0, ()))))))))))))), (3, (1, ()))))).bind (fun (v3 : (FrameT × (Int × Unit))) =>
    ((g_rec_Of (v3.1, ()))).bind (fun (v4 : (RecT × (Int × Unit))) =>
     ((g_rec_Unpack (5, ((2, (0, (0, (0, (0, (0, ())))))), ())))).bind (fun (v5 : (RecT × (Int × Unit))) =>
      (
       bif ((((((((((v1.2.1 == 0) && (v2.2.1 == 0)) && ((v2.1.1 == 1) && ((v2.1.2.1 == 7) && ((v2.1.2.2.1 == 1) && ((v2.1.2.2.2.1 == 2) && ((v2.1.2.2.2.2.1 == 2) && ((v2.1.2.2.2.2.2.1 == 5) && ((v2.1.2.2.2.2.2.2.1 == 9) && ((v2.1.2.2.2.2.2.2.2.1 == 0) && ((v2.1.2.2.2.2.2.2.2.2.1 == 0) && ((v2.1.2.2.2.2.2.2.2.2.2.1 == 0) && ((v2.1.2.2.2.2.2.2.2.2.2.2.1 == false) && ((v2.1.2.2.2.2.2.2.2.2.2.2.2.1 == 0) && ((v2.1.2.2.2.2.2.2.2.2.2.2.2.2.1 == 0) && true)))))))))))))) && ((v1.1.1 == 7) && ((v1.1.2.1 == 1) && ((v1.1.2.2.1 == 2) && ((v1.1.2.2.2.1 == 2) && ((v1.1.2.2.2.2.1 == 5) && ((v1.1.2.2.2.2.2.1 == 9) && true))))))) && (v3.2.1 == 0)) && (v3.1.2.1 == 3)) && (v3.1.2.2.1 == 1)) && (v4.2.1 == 0)) && ((v4.1.1 == 1) && ((v4.1.2.1 == 7) && ((v4.1.2.2.1 == 1) && ((v4.1.2.2.2.1 == 2) && ((v4.1.2.2.2.2.1 == 2) && ((v4.1.2.2.2.2.2.1 == 5) && ((v4.1.2.2.2.2.2.2.1 == 9) && ((v4.1.2.2.2.2.2.2.2.1 == 0) && ((v4.1.2.2.2.2.2.2.2.2.1 == 0) && ((v4.1.2.2.2.2.2.2.2.2.2.1 == 0) && ((v4.1.2.2.2.2.2.2.2.2.2.2.1 == false) && ((v4.1.2.2.2.2.2.2.2.2.2.2.2.1 == 0) && ((v4.1.2.2.2.2.2.2.2.2.2.2.2.2.1 == 0) && true)))))))))))))) && (v5.2.1 == 2)) then ((g_rec_Right ((1, (7, (1, (2, (2, (5, (9, (0, (0, (0, (false, (0, (0, ()))))))))))))), ()))).bind (fun (v6 : Bool) =>
         some v6)
       else some false).bind (fun (v7 : Bool) =>
       (
        bif v7 then ((g_rec_OfNote ((4, (0, (0, (0, (0, ()))))), ()))).bind (fun (v8 : RecT) =>
          some (v8.2.2.2.2.2.2.2.2.2.2.2.1 == 4))
        else some false).bind (fun (v9 : Bool) =>
        some v9)))))))
noncomputable def tc28 : TCn := ⟨[], [.bool], g_law06_awake⟩
noncomputable def T28 := (28, tc28) :: T38
theorem t28 : Tbl Try.prog T28 := Tbl.add t38 hn 5 28 tc28 (by kernel_rfl) (fun a => by kernel_rfl)
noncomputable def g_law06_RecRight (a : (RecT × (Int × ((Int × NoteT) × (NoteT × NextT))))) : Option Bool :=
 ((g_law06_awake ())).bind (fun (v1 : Bool) =>
  bif (!v1) then some false
  else ((g_ref06_Right (a.1, ()))).bind (fun (v2 : Bool) =>
   ((g_rec_Pack (a.1, ()))).bind (fun (v3 : ((Int × NoteT) × (Int × Unit))) =>
    ((g_rec_Frame (a.1, a.2.2.2.2))).bind (fun (v4 : (FrameT × (Int × Unit))) =>
     ((g_rec_Right (a.1, ()))).bind (fun (v5 : Bool) =>
      (
       bif (v5 != v2) then some true
       else ((g_rec_OfNote (a.2.2.2.1, ()))).bind (fun (v6 : RecT) =>
        ((g_ref06_OfNote (a.2.2.2.1, ()))).bind (fun (v7 : RecT) =>
         some (!((v6.1 == v7.1) && ((v6.2.1 == v7.2.1) && ((v6.2.2.1 == v7.2.2.1) && ((v6.2.2.2.1 == v7.2.2.2.1) && ((v6.2.2.2.2.1 == v7.2.2.2.2.1) && ((v6.2.2.2.2.2.1 == v7.2.2.2.2.2.1) && ((v6.2.2.2.2.2.2.1 == v7.2.2.2.2.2.2.1) && ((v6.2.2.2.2.2.2.2.1 == v7.2.2.2.2.2.2.2.1) && ((v6.2.2.2.2.2.2.2.2.1 == v7.2.2.2.2.2.2.2.2.1) && ((v6.2.2.2.2.2.2.2.2.2.1 == v7.2.2.2.2.2.2.2.2.2.1) && ((v6.2.2.2.2.2.2.2.2.2.2.1 == v7.2.2.2.2.2.2.2.2.2.2.1) && ((v6.2.2.2.2.2.2.2.2.2.2.2.1 == v7.2.2.2.2.2.2.2.2.2.2.2.1) && ((v6.2.2.2.2.2.2.2.2.2.2.2.2.1 == v7.2.2.2.2.2.2.2.2.2.2.2.2.1) && true))))))))))))))))).bind (fun (v8 : Bool) =>
       bif v8 then some false
       else (
        bif v2 then (
          bif (v3.2.1 != 0) then some true
          else ((g_ref06_Pack (a.1, ()))).bind (fun (v9 : (Int × NoteT)) =>
           some (!((v3.1.1 == v9.1) && ((v3.1.2.1 == v9.2.1) && ((v3.1.2.2.1 == v9.2.2.1) && ((v3.1.2.2.2.1 == v9.2.2.2.1) && ((v3.1.2.2.2.2.1 == v9.2.2.2.2.1) && ((v3.1.2.2.2.2.2.1 == v9.2.2.2.2.2.1) && true))))))))).bind (fun (v10 : Bool) =>
          bif ((v10 || (v4.2.1 != 0)) || (!((v4.1.1 == a.2.2.2.2.2.1) && ((v4.1.2.1 == a.2.2.2.2.1) && ((v4.1.2.2.1 == a.1.1) && ((v4.1.2.2.2.1.1 == v3.1.1) && ((v4.1.2.2.2.1.2.1 == v3.1.2.1) && ((v4.1.2.2.2.1.2.2.1 == v3.1.2.2.1) && ((v4.1.2.2.2.1.2.2.2.1 == v3.1.2.2.2.1) && ((v4.1.2.2.2.1.2.2.2.2.1 == v3.1.2.2.2.2.1) && ((v4.1.2.2.2.1.2.2.2.2.2.1 == v3.1.2.2.2.2.2.1) && true))))))))))) then (some false).map .inr
          else some (.inl ()))
        else bif ((((v3.2.1 != 1) || (!((v3.1.1 == 0) && ((v3.1.2.1 == 0) && ((v3.1.2.2.1 == 0) && ((v3.1.2.2.2.1 == 0) && ((v3.1.2.2.2.2.1 == 0) && ((v3.1.2.2.2.2.2.1 == 0) && true)))))))) || (v4.2.1 != 1)) || (!((v4.1.1 == 0) && ((v4.1.2.1 == 0) && ((v4.1.2.2.1 == 0) && ((v4.1.2.2.2.1.1 == 0) && ((v4.1.2.2.2.1.2.1 == 0) && ((v4.1.2.2.2.1.2.2.1 == 0) && ((v4.1.2.2.2.1.2.2.2.1 == 0) && ((v4.1.2.2.2.1.2.2.2.2.1 == 0) && ((v4.1.2.2.2.1.2.2.2.2.2.1 == 0) && true))))))))))) then (some false).map .inr
        else some (.inl ())).bind (eX (fun (v11 : Unit) =>
        ((g_rec_Unpack (a.2.1, (a.2.2.1, ())))).bind (fun (v12 : (RecT × (Int × Unit))) =>
         ((g_ref06_Unpack (a.2.1, (a.2.2.1, ())))).bind (fun (v13 : (RecT × (Bool × Unit))) =>
          ((g_rec_Of ((a.2.2.2.2.2.1, (a.2.2.2.2.1, (a.2.1, (a.2.2.1, ())))), ()))).bind (fun (v14 : (RecT × (Int × Unit))) =>
           some ((((((v12.1.1 == v13.1.1) && ((v12.1.2.1 == v13.1.2.1) && ((v12.1.2.2.1 == v13.1.2.2.1) && ((v12.1.2.2.2.1 == v13.1.2.2.2.1) && ((v12.1.2.2.2.2.1 == v13.1.2.2.2.2.1) && ((v12.1.2.2.2.2.2.1 == v13.1.2.2.2.2.2.1) && ((v12.1.2.2.2.2.2.2.1 == v13.1.2.2.2.2.2.2.1) && ((v12.1.2.2.2.2.2.2.2.1 == v13.1.2.2.2.2.2.2.2.1) && ((v12.1.2.2.2.2.2.2.2.2.1 == v13.1.2.2.2.2.2.2.2.2.1) && ((v12.1.2.2.2.2.2.2.2.2.2.1 == v13.1.2.2.2.2.2.2.2.2.2.1) && ((v12.1.2.2.2.2.2.2.2.2.2.2.1 == v13.1.2.2.2.2.2.2.2.2.2.2.1) && ((v12.1.2.2.2.2.2.2.2.2.2.2.2.1 == v13.1.2.2.2.2.2.2.2.2.2.2.2.1) && ((v12.1.2.2.2.2.2.2.2.2.2.2.2.2.1 == v13.1.2.2.2.2.2.2.2.2.2.2.2.2.1) && true))))))))))))) && ((v12.2.1 == 0) == v13.2.1)) && (v13.2.1 || (v12.2.1 == 2))) && ((v14.1.1 == v12.1.1) && ((v14.1.2.1 == v12.1.2.1) && ((v14.1.2.2.1 == v12.1.2.2.1) && ((v14.1.2.2.2.1 == v12.1.2.2.2.1) && ((v14.1.2.2.2.2.1 == v12.1.2.2.2.2.1) && ((v14.1.2.2.2.2.2.1 == v12.1.2.2.2.2.2.1) && ((v14.1.2.2.2.2.2.2.1 == v12.1.2.2.2.2.2.2.1) && ((v14.1.2.2.2.2.2.2.2.1 == v12.1.2.2.2.2.2.2.2.1) && ((v14.1.2.2.2.2.2.2.2.2.1 == v12.1.2.2.2.2.2.2.2.2.1) && ((v14.1.2.2.2.2.2.2.2.2.2.1 == v12.1.2.2.2.2.2.2.2.2.2.1) && ((v14.1.2.2.2.2.2.2.2.2.2.2.1 == v12.1.2.2.2.2.2.2.2.2.2.2.1) && ((v14.1.2.2.2.2.2.2.2.2.2.2.2.1 == v12.1.2.2.2.2.2.2.2.2.2.2.2.1) && ((v14.1.2.2.2.2.2.2.2.2.2.2.2.2.1 == v12.1.2.2.2.2.2.2.2.2.2.2.2.2.1) && true)))))))))))))) && (v14.2.1 == v12.2.1)))))))))))))
noncomputable def tc10 : TCn := ⟨[shRec, (.int .i64), (.cons (.int .i64) shNote), shNote, (.int .i64), (.int .i64)], [.bool], g_law06_RecRight⟩
noncomputable def T10 := (10, tc10) :: T28
theorem t10 : Tbl Try.prog T10 := Tbl.add t28 hn 5 10 tc10 (by kernel_rfl) (fun a => by kernel_rfl)
noncomputable def g_law06_RecFields (a : (RecT × (Int × Unit))) : Option Bool :=
 ((g_law06_awake ())).bind (fun (v1 : Bool) =>
  bif (!v1) then some false
  else ((g_rec_Right (a.1, ()))).bind (fun (v2 : Bool) =>
   bif ((!v2) || (a.2.1 == 0)) then some true
   else (
    bif (a.1.1 == 1) then some ((a.1.1 == 1), ())
    else (
     bif (a.1.1 == 2) then some ((a.1.1 == 2), ())
     else some ((a.1.1 == 3), ())).bind (fun (v3 : (Bool × Unit)) =>
     some v3)).bind (fun (v4 : (Bool × Unit)) =>
    (
     bif v4.1 then some (a.1.1, (a.1.2.1, (a.1.2.2.1, (a.1.2.2.2.1, (a.1.2.2.2.2.1, (a.1.2.2.2.2.2.1, (a.1.2.2.2.2.2.2.1, (a.1.2.2.2.2.2.2.2.1, (a.1.2.2.2.2.2.2.2.2.1, (a.1.2.2.2.2.2.2.2.2.2.1, (a.1.2.2.2.2.2.2.2.2.2.2.1, (a.2.1, a.1.2.2.2.2.2.2.2.2.2.2.2.2))))))))))))
     else (
      bif (a.1.1 == 4) then some (a.1.1, (a.2.1, a.1.2.2))
      else (
       bif (a.1.1 == 5) then some (a.1.1, (a.1.2.1, (a.1.2.2.1, (a.1.2.2.2.1, (a.1.2.2.2.2.1, (a.2.1, a.1.2.2.2.2.2.2))))))
       else some (a.1.1, (a.1.2.1, (a.1.2.2.1, (a.1.2.2.2.1, (a.1.2.2.2.2.1, (a.1.2.2.2.2.2.1, (a.1.2.2.2.2.2.2.1, (a.2.1, a.1.2.2.2.2.2.2.2.2))))))))).bind (fun (v5 : RecT) =>
       some v5)).bind (fun (v6 : RecT) =>
      some v6)).bind (fun (v7 : RecT) =>
     ((g_rec_Right (v7, ()))).bind (fun (v8 : Bool) =>
      bif v8 then some false
      else some ((((decide (a.1.2.1 > 0)) == ((a.1.1 != 4) && (a.1.1 != 5))) && (decide (a.1.1 ≥ 1))) && (decide (a.1.1 ≤ 6))))))))
noncomputable def tc11 : TCn := ⟨[shRec, (.int .i64)], [.bool], g_law06_RecFields⟩
noncomputable def T11 := (11, tc11) :: T10
theorem t11 : Tbl Try.prog T11 := Tbl.add t10 hn 5 11 tc11 (by kernel_rfl) (fun a => by kernel_rfl)
noncomputable def g_law06_RecBack (a : (RecT × (RecT × (Int × ((Int × NoteT) × Unit))))) : Option Bool :=
 ((g_law06_awake ())).bind (fun (v1 : Bool) =>
  bif (!v1) then some false
  else ((g_rec_Unpack a.2.2)).bind (fun (v2 : (RecT × (Int × Unit))) =>
   (
    bif (v2.2.1 == 0) then ((g_rec_Pack (v2.1, ()))).bind (fun (v3 : ((Int × NoteT) × (Int × Unit))) =>
      (
       bif (((v3.2.1 != 0) || (!((v3.1.1 == a.2.2.2.1.1) && ((v3.1.2.1 == a.2.2.2.1.2.1) && ((v3.1.2.2.1 == a.2.2.2.1.2.2.1) && ((v3.1.2.2.2.1 == a.2.2.2.1.2.2.2.1) && ((v3.1.2.2.2.2.1 == a.2.2.2.1.2.2.2.2.1) && ((v3.1.2.2.2.2.2.1 == a.2.2.2.1.2.2.2.2.2.1) && true)))))))) || (v2.1.1 != a.2.2.1)) then some true
       else ((g_rec_Right (v2.1, ()))).bind (fun (v4 : Bool) =>
        some (!v4))).bind (fun (v5 : Bool) =>
       bif v5 then (some false).map .inr
       else some (.inl ())))
    else some (.inl ())).bind (eX (fun (v6 : Unit) =>
    ((g_rec_Right (a.1, ()))).bind (fun (v7 : Bool) =>
     (
      bif (!v7) then some true
      else ((g_rec_Right (a.2.1, ()))).bind (fun (v8 : Bool) =>
       some (!v8))).bind (fun (v9 : Bool) =>
      bif v9 then some true
      else ((g_rec_Pack (a.1, ()))).bind (fun (v10 : ((Int × NoteT) × (Int × Unit))) =>
       ((g_rec_Pack (a.2.1, ()))).bind (fun (v11 : ((Int × NoteT) × (Int × Unit))) =>
        ((g_rec_Unpack (a.1.1, (v10.1, ())))).bind (fun (v12 : (RecT × (Int × Unit))) =>
         bif (((((v10.2.1 != 0) || (v11.2.1 != 0)) || (v12.2.1 != 0)) || (!((v12.1.1 == a.1.1) && ((v12.1.2.1 == a.1.2.1) && ((v12.1.2.2.1 == a.1.2.2.1) && ((v12.1.2.2.2.1 == a.1.2.2.2.1) && ((v12.1.2.2.2.2.1 == a.1.2.2.2.2.1) && ((v12.1.2.2.2.2.2.1 == a.1.2.2.2.2.2.1) && ((v12.1.2.2.2.2.2.2.1 == a.1.2.2.2.2.2.2.1) && ((v12.1.2.2.2.2.2.2.2.1 == a.1.2.2.2.2.2.2.2.1) && ((v12.1.2.2.2.2.2.2.2.2.1 == a.1.2.2.2.2.2.2.2.2.1) && ((v12.1.2.2.2.2.2.2.2.2.2.1 == a.1.2.2.2.2.2.2.2.2.2.1) && ((v12.1.2.2.2.2.2.2.2.2.2.2.1 == a.1.2.2.2.2.2.2.2.2.2.2.1) && ((v12.1.2.2.2.2.2.2.2.2.2.2.2.1 == a.1.2.2.2.2.2.2.2.2.2.2.2.1) && ((v12.1.2.2.2.2.2.2.2.2.2.2.2.2.1 == a.1.2.2.2.2.2.2.2.2.2.2.2.2.1) && true))))))))))))))) || ((a.1.1 == a.2.1.1) && (((v10.1.1 == v11.1.1) && ((v10.1.2.1 == v11.1.2.1) && ((v10.1.2.2.1 == v11.1.2.2.1) && ((v10.1.2.2.2.1 == v11.1.2.2.2.1) && ((v10.1.2.2.2.2.1 == v11.1.2.2.2.2.1) && ((v10.1.2.2.2.2.2.1 == v11.1.2.2.2.2.2.1) && true)))))) != ((a.1.1 == a.2.1.1) && ((a.1.2.1 == a.2.1.2.1) && ((a.1.2.2.1 == a.2.1.2.2.1) && ((a.1.2.2.2.1 == a.2.1.2.2.2.1) && ((a.1.2.2.2.2.1 == a.2.1.2.2.2.2.1) && ((a.1.2.2.2.2.2.1 == a.2.1.2.2.2.2.2.1) && ((a.1.2.2.2.2.2.2.1 == a.2.1.2.2.2.2.2.2.1) && ((a.1.2.2.2.2.2.2.2.1 == a.2.1.2.2.2.2.2.2.2.1) && ((a.1.2.2.2.2.2.2.2.2.1 == a.2.1.2.2.2.2.2.2.2.2.1) && ((a.1.2.2.2.2.2.2.2.2.2.1 == a.2.1.2.2.2.2.2.2.2.2.2.1) && ((a.1.2.2.2.2.2.2.2.2.2.2.1 == a.2.1.2.2.2.2.2.2.2.2.2.2.1) && ((a.1.2.2.2.2.2.2.2.2.2.2.2.1 == a.2.1.2.2.2.2.2.2.2.2.2.2.2.1) && ((a.1.2.2.2.2.2.2.2.2.2.2.2.2.1 == a.2.1.2.2.2.2.2.2.2.2.2.2.2.2.1) && true)))))))))))))))) then some false
         else ((g_rec_Frame (a.1, (5, (2, ()))))).bind (fun (v13 : (FrameT × (Int × Unit))) =>
          ((g_frame_Encode (v13.1, ()))).bind (fun (v14 : ((List Int) × (Int × Unit))) =>
           ((g_frame_Decode (v14.1, ()))).bind (fun (v15 : (FrameT × (Int × Unit))) =>
            ((g_rec_Of (v15.1, ()))).bind (fun (v16 : (RecT × (Int × Unit))) =>
             some (((((v13.2.1 == 0) && (v14.2.1 == 0)) && (v15.2.1 == 0)) && (v16.2.1 == 0)) && ((v16.1.1 == a.1.1) && ((v16.1.2.1 == a.1.2.1) && ((v16.1.2.2.1 == a.1.2.2.1) && ((v16.1.2.2.2.1 == a.1.2.2.2.1) && ((v16.1.2.2.2.2.1 == a.1.2.2.2.2.1) && ((v16.1.2.2.2.2.2.1 == a.1.2.2.2.2.2.1) && ((v16.1.2.2.2.2.2.2.1 == a.1.2.2.2.2.2.2.1) && ((v16.1.2.2.2.2.2.2.2.1 == a.1.2.2.2.2.2.2.2.1) && ((v16.1.2.2.2.2.2.2.2.2.1 == a.1.2.2.2.2.2.2.2.2.1) && ((v16.1.2.2.2.2.2.2.2.2.2.1 == a.1.2.2.2.2.2.2.2.2.2.1) && ((v16.1.2.2.2.2.2.2.2.2.2.2.1 == a.1.2.2.2.2.2.2.2.2.2.2.1) && ((v16.1.2.2.2.2.2.2.2.2.2.2.2.1 == a.1.2.2.2.2.2.2.2.2.2.2.2.1) && ((v16.1.2.2.2.2.2.2.2.2.2.2.2.2.1 == a.1.2.2.2.2.2.2.2.2.2.2.2.2.1) && true)))))))))))))))))))))))))))
noncomputable def tc12 : TCn := ⟨[shRec, shRec, (.int .i64), (.cons (.int .i64) shNote)], [.bool], g_law06_RecBack⟩
noncomputable def T12 := (12, tc12) :: T11
theorem t12 : Tbl Try.prog T12 := Tbl.add t11 hn 5 12 tc12 (by kernel_rfl) (fun a => by kernel_rfl)
noncomputable def g_scan_Put (a : ((List FrameT) × Unit)) : Option ((List Int) × (Int × Unit)) :=
 (
  loopO (fun (v1 : ((List Int) × (Int × Unit))) =>
   bif (decide (v1.2.1 < (a.1.length : Int))) then ((getI a.1 v1.2.1)).bind (fun (v2 : FrameT) =>
     ((g_frame_Encode (v2, ()))).bind (fun (v3 : ((List Int) × (Int × Unit))) =>
      bif (v3.2.1 != 0) then ((some ([], v3.2)).map .inr).map .inr
      else ((appX v1.1 v3.1 1)).bind (fun (v4 : (List Int)) =>
       some (.inl (v4, ((IntKind.wrap .i64 (v1.2.1 + 1)), ()))))))
   else (some (.inl (v1.1, ()))).map .inr) ([], (0, ()))).bind (eX (fun (v5 : ((List Int) × Unit)) =>
  some (v5.1, (0, ()))))
noncomputable def tc21 : TCn := ⟨[(.slice 9 shFrame)], [(.slice 1 (.int .u8)), (.int .i64)], g_scan_Put⟩
noncomputable def T21 := (21, tc21) :: T12
theorem t21 : Tbl Try.prog T21 := Tbl.add t12 hn 5 21 tc21 (by kernel_rfl) (fun a => by kernel_rfl)
noncomputable def g_ref05_Put (a : ((List FrameT) × Unit)) : Option (List Int) :=
 (
  loopO (fun (v1 : ((List Int) × (Int × Unit))) =>
   bif (decide (v1.2.1 < (a.1.length : Int))) then ((getI a.1 v1.2.1)).bind (fun (v2 : FrameT) =>
     ((g_ref04_Encode (v2, ()))).bind (fun (v3 : (List Int)) =>
      ((appX v1.1 v3 1)).bind (fun (v4 : (List Int)) =>
       some (.inl (v4, ((IntKind.wrap .i64 (v1.2.1 + 1)), ()))))))
   else (some (v1.1, ())).map .inr) ([], (0, ()))).bind (fun (v5 : ((List Int) × Unit)) =>
  some v5.1)
noncomputable def tc22 : TCn := ⟨[(.slice 9 shFrame)], [(.slice 1 (.int .u8))], g_ref05_Put⟩
noncomputable def T22 := (22, tc22) :: T21
theorem t22 : Tbl Try.prog T22 := Tbl.add t21 hn 5 22 tc22 (by kernel_rfl) (fun a => by kernel_rfl)
noncomputable def g_scan_Scan (a : ((List Int) × NextT)) : Option ((List FrameT) × (Int × Unit)) :=
 (
  loopO (fun (v1 : ((List FrameT) × (Int × NextT))) =>
   bif (decide ((IntKind.wrap .i64 ((a.1.length : Int) - v1.2.1)) ≥ 72)) then ((subI a.1 v1.2.1 (IntKind.wrap .i64 (v1.2.1 + 72)))).bind (fun (v2 : (List Int)) =>
     ((g_frame_Decode (v2, ()))).bind (fun (v3 : (FrameT × (Int × Unit))) =>
      bif (v3.2.1 != 0) then (some v1).map .inr
      else ((g_frame_Right (v3.1, ()))).bind (fun (v4 : Bool) =>
       bif (((!v4) || (v3.1.2.1 != v1.2.2.1)) || (decide (v3.1.1 < v1.2.2.2.1))) then (some v1).map .inr
       else ((appX v1.1 (v3.1 :: []) 72)).bind (fun (v5 : (List FrameT)) =>
        some (.inl (v5, ((IntKind.wrap .i64 (v1.2.1 + 72)), ((IntKind.wrap .i64 (v3.1.2.1 + 1)), (v3.1.1, ())))))))))
   else (some v1).map .inr) ([], (0, a.2))).bind (fun (v6 : ((List FrameT) × (Int × NextT))) =>
  some (v6.1, (v6.2.1, ())))
noncomputable def tc23 : TCn := ⟨[(.slice 1 (.int .u8)), (.int .i64), (.int .i64)], [(.slice 9 shFrame), (.int .i64)], g_scan_Scan⟩
noncomputable def T23 := (23, tc23) :: T22
theorem t23 : Tbl Try.prog T23 := Tbl.add t22 hn 5 23 tc23 (by kernel_rfl) (fun a => by kernel_rfl)
noncomputable def g_scan_Row (a : ((List FrameT) × NextT)) : Option Bool :=
 (
  loopO (fun (v1 : (Int × NextT)) =>
   bif (decide (v1.1 < (a.1.length : Int))) then ((getI a.1 v1.1)).bind (fun (v2 : FrameT) =>
     ((g_frame_Right (v2, ()))).bind (fun (v3 : Bool) =>
      bif (((!v3) || (v2.2.1 != v1.2.1)) || (decide (v2.1 < v1.2.2.1))) then ((some false).map .inr).map .inr
      else some (.inl ((IntKind.wrap .i64 (v1.1 + 1)), ((IntKind.wrap .i64 (v2.2.1 + 1)), (v2.1, ()))))))
   else (some (.inl v1.2)).map .inr) (0, a.2)).bind (eX (fun (v4 : NextT) =>
  some true))
noncomputable def tc25 : TCn := ⟨[(.slice 9 shFrame), (.int .i64), (.int .i64)], [.bool], g_scan_Row⟩
noncomputable def T25 := (25, tc25) :: T23
theorem t25 : Tbl Try.prog T25 := Tbl.add t23 hn 5 25 tc25 (by kernel_rfl) (fun a => by kernel_rfl)
noncomputable def g_ref05_Row (a : ((List FrameT) × NextT)) : Option Bool :=
 (
  loopO (fun (v1 : (Int × Unit)) =>
   bif (decide (v1.1 < (a.1.length : Int))) then ((getI a.1 v1.1)).bind (fun (v2 : FrameT) =>
     ((g_ref04_Right (v2, ()))).bind (fun (v3 : Bool) =>
      bif (!v3) then ((some false).map .inr).map .inr
      else (
       bif (v1.1 == 0) then ((getI a.1 0)).bind (fun (v4 : FrameT) =>
         (
          bif (v4.2.1 != a.2.1) then some true
          else ((getI a.1 0)).bind (fun (v5 : FrameT) =>
           some (decide (v5.1 < a.2.2.1)))).bind (fun (v6 : Bool) =>
          some v6))
       else some false).bind (fun (v7 : Bool) =>
       (
        bif v7 then some true
        else (
         bif (decide (v1.1 > 0)) then ((getI a.1 v1.1)).bind (fun (v8 : FrameT) =>
           ((getI a.1 (IntKind.wrap .i64 (v1.1 - 1)))).bind (fun (v9 : FrameT) =>
            (
             bif (v8.2.1 != (IntKind.wrap .i64 (v9.2.1 + 1))) then some true
             else ((getI a.1 v1.1)).bind (fun (v10 : FrameT) =>
              ((getI a.1 (IntKind.wrap .i64 (v1.1 - 1)))).bind (fun (v11 : FrameT) =>
               some (decide (v10.1 < v11.1))))).bind (fun (v12 : Bool) =>
             some v12)))
         else some false).bind (fun (v13 : Bool) =>
         some v13)).bind (fun (v14 : Bool) =>
        bif v14 then ((some false).map .inr).map .inr
        else some (.inl ((IntKind.wrap .i64 (v1.1 + 1)), ()))))))
   else (some (.inl ())).map .inr) (0, ())).bind (eX (fun (v15 : Unit) =>
  some true))
noncomputable def tc26 : TCn := ⟨[(.slice 9 shFrame), (.int .i64), (.int .i64)], [.bool], g_ref05_Row⟩
noncomputable def T26 := (26, tc26) :: T25
theorem t26 : Tbl Try.prog T26 := Tbl.add t25 hn 5 26 tc26 (by kernel_rfl) (fun a => by kernel_rfl)
noncomputable def g_ref05_Scan (a : ((List Int) × NextT)) : Option ((List FrameT) × (Int × Unit)) :=
 (
  loopO (fun (v1 : ((List FrameT) × (Int × Unit))) =>
   bif (decide ((IntKind.wrap .i64 ((a.1.length : Int) - v1.2.1)) ≥ 72)) then ((subI a.1 v1.2.1 (IntKind.wrap .i64 (v1.2.1 + 72)))).bind (fun (v2 : (List Int)) =>
     ((g_ref04_Decode (v2, ()))).bind (fun (v3 : (FrameT × (Int × Unit))) =>
      bif (v3.2.1 != 0) then (some (v1.1, ())).map .inr
      else ((appX [] v1.1 72)).bind (fun (v4 : (List FrameT)) =>
       ((appX v4 (v3.1 :: []) 72)).bind (fun (v5 : (List FrameT)) =>
        ((g_ref05_Row (v5, a.2))).bind (fun (v6 : Bool) =>
         bif (!v6) then (some (v1.1, ())).map .inr
         else ((appX v1.1 (v3.1 :: []) 72)).bind (fun (v7 : (List FrameT)) =>
          some (.inl (v7, ((IntKind.wrap .i64 (v1.2.1 + 72)), ())))))))))
   else (some (v1.1, ())).map .inr) ([], (0, ()))).bind (fun (v8 : ((List FrameT) × Unit)) =>
  some (v8.1, ((IntKind.wrap .i64 (72 * (v8.1.length : Int))), ())))
noncomputable def tc24 : TCn := ⟨[(.slice 1 (.int .u8)), (.int .i64), (.int .i64)], [(.slice 9 shFrame), (.int .i64)], g_ref05_Scan⟩
noncomputable def T24 := (24, tc24) :: T26
theorem t24 : Tbl Try.prog T24 := Tbl.add t26 hn 5 24 tc24 (by kernel_rfl) (fun a => by kernel_rfl)
noncomputable def g_ref05_Same (a : ((List FrameT) × ((List FrameT) × Unit))) : Option Bool :=
 bif ((a.1.length : Int) != (a.2.1.length : Int)) then some false
 else (
  loopO (fun (v1 : (Int × Unit)) =>
   bif (decide (v1.1 < (a.1.length : Int))) then ((getI a.1 v1.1)).bind (fun (v2 : FrameT) =>
     ((getI a.2.1 v1.1)).bind (fun (v3 : FrameT) =>
      bif (!((v2.1 == v3.1) && ((v2.2.1 == v3.2.1) && ((v2.2.2.1 == v3.2.2.1) && ((v2.2.2.2.1.1 == v3.2.2.2.1.1) && ((v2.2.2.2.1.2.1 == v3.2.2.2.1.2.1) && ((v2.2.2.2.1.2.2.1 == v3.2.2.2.1.2.2.1) && ((v2.2.2.2.1.2.2.2.1 == v3.2.2.2.1.2.2.2.1) && ((v2.2.2.2.1.2.2.2.2.1 == v3.2.2.2.1.2.2.2.2.1) && ((v2.2.2.2.1.2.2.2.2.2.1 == v3.2.2.2.1.2.2.2.2.2.1) && true)))))))))) then ((some false).map .inr).map .inr
      else some (.inl ((IntKind.wrap .i64 (v1.1 + 1)), ()))))
   else (some (.inl ())).map .inr) (0, ())).bind (eX (fun (v4 : Unit) =>
  some true))
noncomputable def tc27 : TCn := ⟨[(.slice 9 shFrame), (.slice 9 shFrame)], [.bool], g_ref05_Same⟩
noncomputable def T27 := (27, tc27) :: T24
theorem t27 : Tbl Try.prog T27 := Tbl.add t24 hn 5 27 tc27 (by kernel_rfl) (fun a => by kernel_rfl)
noncomputable def g_law05_awake (a : Unit) : Option Bool :=
 ((g_scan_Put (((1, (3, (1, ((0, (0, (0, (0, (0, (0, ())))))), ())))) :: ((2, (4, (6, ((0, (0, (0, (0, (0, (0, ())))))), ())))) :: [])), ()))).bind (fun (v1 : ((List Int) × (Int × Unit))) =>
  bif (decide ((v1.1.length : Int) < 70)) then some false
  else ((appX [] v1.1 1)).bind (fun (v2 : (List Int)) =>
   ((subI v1.1 0 70)).bind (fun (v3 : (List Int)) =>
    ((appX v2 v3 1)).bind (fun (v4 : (List Int)) =>
     ((g_scan_Scan (v4, (3, (1, ()))))).bind (fun (v5 : ((List FrameT) × (Int × Unit))) =>
      ((g_scan_Scan (v1.1, (3, (2, ()))))).bind (fun (v6 : ((List FrameT) × (Int × Unit))) =>
       (
        bif (((v1.2.1 == 0) && ((v1.1.length : Int) == 144)) && (v5.2.1 == 144)) then ((g_ref05_Same (((1, (3, (1, ((0, (0, (0, (0, (0, (0, ())))))), ())))) :: ((2, (4, (6, ((0, (0, (0, (0, (0, (0, ())))))), ())))) :: [])), (v5.1, ())))).bind (fun (v7 : Bool) =>
          some v7)
        else some false).bind (fun (v8 : Bool) =>
        (
         bif ((v8 && ((v6.1.length : Int) == 0)) && (v6.2.1 == 0)) then ((g_scan_Row (((1, (3, (1, ((0, (0, (0, (0, (0, (0, ())))))), ())))) :: ((2, (4, (6, ((0, (0, (0, (0, (0, (0, ())))))), ())))) :: [])), (3, (1, ()))))).bind (fun (v9 : Bool) =>
           some v9)
         else some false).bind (fun (v10 : Bool) =>
         (
          bif v10 then ((g_scan_Row (((1, (3, (1, ((0, (0, (0, (0, (0, (0, ())))))), ())))) :: ((2, (4, (6, ((0, (0, (0, (0, (0, (0, ())))))), ())))) :: [])), (3, (2, ()))))).bind (fun (v11 : Bool) =>
            some (!v11))
          else some false).bind (fun (v12 : Bool) =>
          some v12)))))))))
noncomputable def tc20 : TCn := ⟨[], [.bool], g_law05_awake⟩
noncomputable def T20 := (20, tc20) :: T27
theorem t20 : Tbl Try.prog T20 := Tbl.add t27 hn 5 20 tc20 (by kernel_rfl) (fun a => by kernel_rfl)
noncomputable def g_law05_ScanRight (a : ((List FrameT) × ((List Int) × NextT))) : Option Bool :=
 ((g_law05_awake ())).bind (fun (v1 : Bool) =>
  bif (!v1) then some false
  else bif ((decide ((a.1.length : Int) > 20)) || (decide ((a.2.1.length : Int) > 1500))) then some true
  else (
   loopO (fun (v2 : (Bool × (Int × Unit))) =>
    bif (decide (v2.2.1 < (a.1.length : Int))) then (
      bif v2.1 then ((getI a.1 v2.2.1)).bind (fun (v3 : FrameT) =>
        ((g_frame_Right (v3, ()))).bind (fun (v4 : Bool) =>
         some v4))
      else some false).bind (fun (v5 : Bool) =>
      some (.inl (v5, ((IntKind.wrap .i64 (v2.2.1 + 1)), ()))))
    else (some (v2.1, ())).map .inr) (true, (0, ()))).bind (fun (v6 : (Bool × Unit)) =>
   ((g_scan_Put (a.1, ()))).bind (fun (v7 : ((List Int) × (Int × Unit))) =>
    (
     bif v6.1 then (
       bif (v7.2.1 != 0) then some true
       else ((g_ref05_Put (a.1, ()))).bind (fun (v8 : (List Int)) =>
        some (!(decide ((mkS v7.1) = (mkS v8)))))).bind (fun (v9 : Bool) =>
       some v9)
     else some false).bind (fun (v10 : Bool) =>
     bif (v10 || ((!v6.1) && ((v7.2.1 != 1) || ((v7.1.length : Int) != 0)))) then some false
     else ((g_scan_Scan a.2)).bind (fun (v11 : ((List FrameT) × (Int × Unit))) =>
      ((g_ref05_Scan a.2)).bind (fun (v12 : ((List FrameT) × (Int × Unit))) =>
       ((g_scan_Row (a.1, a.2.2))).bind (fun (v13 : Bool) =>
        ((g_ref05_Row (a.1, a.2.2))).bind (fun (v14 : Bool) =>
         (
          bif (v13 == v14) then ((g_ref05_Same (v11.1, (v12.1, ())))).bind (fun (v15 : Bool) =>
            some v15)
          else some false).bind (fun (v16 : Bool) =>
          some (v16 && (v11.2.1 == v12.2.1)))))))))))
noncomputable def tc6 : TCn := ⟨[(.slice 9 shFrame), (.slice 1 (.int .u8)), (.int .i64), (.int .i64)], [.bool], g_law05_ScanRight⟩
noncomputable def T6 := (6, tc6) :: T20
theorem t6 : Tbl Try.prog T6 := Tbl.add t20 hn 5 6 tc6 (by kernel_rfl) (fun a => by kernel_rfl)
noncomputable def g_law05_ScanBack (a : ((List FrameT) × (Int × ((List Int) × NextT)))) : Option Bool :=
 ((g_law05_awake ())).bind (fun (v1 : Bool) =>
  bif (!v1) then some false
  else bif ((decide ((a.1.length : Int) > 20)) || (decide ((a.2.2.1.length : Int) > 1500))) then some true
  else ((g_scan_Scan a.2.2)).bind (fun (v2 : ((List FrameT) × (Int × Unit))) =>
   ((g_scan_Row (v2.1, a.2.2.2))).bind (fun (v3 : Bool) =>
    bif (((!v3) || (v2.2.1 != (IntKind.wrap .i64 ((v2.1.length : Int) * 72)))) || (decide (v2.2.1 > (a.2.2.1.length : Int)))) then some false
    else ((g_scan_Put (v2.1, ()))).bind (fun (v4 : ((List Int) × (Int × Unit))) =>
     (
      bif (v4.2.1 != 0) then some true
      else ((subI a.2.2.1 0 v2.2.1)).bind (fun (v5 : (List Int)) =>
       some (!(decide ((mkS v4.1) = (mkS v5)))))).bind (fun (v6 : Bool) =>
      bif v6 then some false
      else ((g_scan_Row (a.1, a.2.2.2))).bind (fun (v7 : Bool) =>
       bif (!v7) then some true
       else ((g_scan_Put (a.1, ()))).bind (fun (v8 : ((List Int) × (Int × Unit))) =>
        ((g_scan_Scan (v8.1, a.2.2.2))).bind (fun (v9 : ((List FrameT) × (Int × Unit))) =>
         (
          bif (v8.2.1 != 0) then some true
          else ((g_ref05_Same (v9.1, (a.1, ())))).bind (fun (v10 : Bool) =>
           some (!v10))).bind (fun (v11 : Bool) =>
          bif ((v11 || (v9.2.1 != (v8.1.length : Int))) || ((v8.1.length : Int) != (IntKind.wrap .i64 ((a.1.length : Int) * 72)))) then some false
          else bif (decide ((IntKind.wrap .i64 ((v8.1.length : Int) + 1)) = 0)) then none
          else ((subI v8.1 0 (Int.tmod (IntKind.wrap .i64 a.2.1) (IntKind.wrap .i64 ((v8.1.length : Int) + 1))))).bind (fun (v12 : (List Int)) =>
           ((g_scan_Scan (v12, a.2.2.2))).bind (fun (v13 : ((List FrameT) × (Int × Unit))) =>
            ((subI a.1 0 (IntKind.wrap .i64 (Int.tdiv (Int.tmod (IntKind.wrap .i64 a.2.1) (IntKind.wrap .i64 ((v8.1.length : Int) + 1))) 72)))).bind (fun (v14 : (List FrameT)) =>
             ((g_ref05_Same (v13.1, (v14, ())))).bind (fun (v15 : Bool) =>
              (
               bif v15 then some (v13.2.1 == (IntKind.wrap .i64 ((Int.tmod (IntKind.wrap .i64 a.2.1) (IntKind.wrap .i64 ((v8.1.length : Int) + 1))) - (Int.tmod (Int.tmod (IntKind.wrap .i64 a.2.1) (IntKind.wrap .i64 ((v8.1.length : Int) + 1))) 72))))
               else some false).bind (fun (v16 : Bool) =>
               some v16))))))))))))))
noncomputable def tc7 : TCn := ⟨[(.slice 9 shFrame), (.int .u16), (.slice 1 (.int .u8)), (.int .i64), (.int .i64)], [.bool], g_law05_ScanBack⟩
noncomputable def T7 := (7, tc7) :: T6
theorem t7 : Tbl Try.prog T7 := Tbl.add t6 hn 5 7 tc7 (by kernel_rfl) (fun a => by kernel_rfl)
noncomputable def g_law05_ScanTurned (a : ((List FrameT) × (Int × ((Int × (Int × NextT)) × NextT)))) : Option Bool :=
 ((g_law05_awake ())).bind (fun (v1 : Bool) =>
  bif (!v1) then some false
  else (
   bif ((decide ((a.1.length : Int) > 20)) || ((a.1.length : Int) == 0)) then some true
   else ((g_scan_Row (a.1, a.2.2.2))).bind (fun (v2 : Bool) =>
    some (!v2))).bind (fun (v3 : Bool) =>
   bif v3 then some true
   else ((g_scan_Put (a.1, ()))).bind (fun (v4 : ((List Int) × (Int × Unit))) =>
    bif ((v4.2.1 != 0) || ((v4.1.length : Int) == 0)) then some false
    else bif (decide ((v4.1.length : Int) = 0)) then none
    else (
     (
      bif ((decide ((IntKind.wrap .i64 ((Int.tmod (IntKind.wrap .i64 a.2.1) (v4.1.length : Int)) + 3)) < (v4.1.length : Int))) && (a.2.2.1.2.2.2.1 != 0)) then some ((IntKind.wrap .i64 ((Int.tmod (IntKind.wrap .i64 a.2.1) (v4.1.length : Int)) + 3)), ())
      else some ((v4.1.length : Int), ())).bind (fun (v5 : (Int × Unit)) =>
      (
       bif ((decide ((IntKind.wrap .i64 ((Int.tmod (IntKind.wrap .i64 a.2.1) (v4.1.length : Int)) + (IntKind.wrap .i64 (3 - 1)))) < (v4.1.length : Int))) && (a.2.2.1.2.2.1 != 0)) then some ((IntKind.wrap .i64 ((Int.tmod (IntKind.wrap .i64 a.2.1) (v4.1.length : Int)) + (IntKind.wrap .i64 (3 - 1)))), ())
       else some v5).bind (fun (v6 : (Int × Unit)) =>
       (
        bif ((decide ((IntKind.wrap .i64 ((Int.tmod (IntKind.wrap .i64 a.2.1) (v4.1.length : Int)) + (IntKind.wrap .i64 ((IntKind.wrap .i64 (3 - 1)) - 1)))) < (v4.1.length : Int))) && (a.2.2.1.2.1 != 0)) then some ((IntKind.wrap .i64 ((Int.tmod (IntKind.wrap .i64 a.2.1) (v4.1.length : Int)) + (IntKind.wrap .i64 ((IntKind.wrap .i64 (3 - 1)) - 1)))), ())
        else some v6).bind (fun (v7 : (Int × Unit)) =>
        (
         bif ((decide ((IntKind.wrap .i64 ((Int.tmod (IntKind.wrap .i64 a.2.1) (v4.1.length : Int)) + (IntKind.wrap .i64 ((IntKind.wrap .i64 ((IntKind.wrap .i64 (3 - 1)) - 1)) - 1)))) < (v4.1.length : Int))) && (a.2.2.1.1 != 0)) then some ((IntKind.wrap .i64 ((Int.tmod (IntKind.wrap .i64 a.2.1) (v4.1.length : Int)) + (IntKind.wrap .i64 ((IntKind.wrap .i64 ((IntKind.wrap .i64 (3 - 1)) - 1)) - 1)))), ())
         else some v7).bind (fun (v8 : (Int × Unit)) =>
         some v8))))).bind (fun (v9 : (Int × Unit)) =>
     ((appX [] v4.1 1)).bind (fun (v10 : (List Int)) =>
      (
       bif ((decide (0 < 4)) && (decide ((IntKind.wrap .i64 ((Int.tmod (IntKind.wrap .i64 a.2.1) (v4.1.length : Int)) + 0)) < (v4.1.length : Int)))) then ((getI v4.1 (IntKind.wrap .i64 ((Int.tmod (IntKind.wrap .i64 a.2.1) (v4.1.length : Int)) + 0)))).bind (fun (v11 : Int) =>
         bif (inI (IntKind.wrap .i64 ((Int.tmod (IntKind.wrap .i64 a.2.1) (v4.1.length : Int)) + 0)) v10.length) then (v10[(Int.toNat (IntKind.wrap .i64 ((Int.tmod (IntKind.wrap .i64 a.2.1) (v4.1.length : Int)) + 0)))]?).bind (fun (v12 : Int) =>
           bif ((decide ((IntKind.wrap .i64 (0 + 1)) < 4)) && (decide ((IntKind.wrap .i64 ((Int.tmod (IntKind.wrap .i64 a.2.1) (v4.1.length : Int)) + (IntKind.wrap .i64 (0 + 1)))) < (v4.1.length : Int)))) then ((getI v4.1 (IntKind.wrap .i64 ((Int.tmod (IntKind.wrap .i64 a.2.1) (v4.1.length : Int)) + (IntKind.wrap .i64 (0 + 1)))))).bind (fun (v13 : Int) =>
             bif (inI (IntKind.wrap .i64 ((Int.tmod (IntKind.wrap .i64 a.2.1) (v4.1.length : Int)) + (IntKind.wrap .i64 (0 + 1)))) (List.set v10 (Int.toNat (IntKind.wrap .i64 ((Int.tmod (IntKind.wrap .i64 a.2.1) (v4.1.length : Int)) + 0))) (Go.bits Go.BinOp.xor Go.IntKind.u8 v11 a.2.2.1.1)).length) then ((List.set v10 (Int.toNat (IntKind.wrap .i64 ((Int.tmod (IntKind.wrap .i64 a.2.1) (v4.1.length : Int)) + 0))) (Go.bits Go.BinOp.xor Go.IntKind.u8 v11 a.2.2.1.1))[(Int.toNat (IntKind.wrap .i64 ((Int.tmod (IntKind.wrap .i64 a.2.1) (v4.1.length : Int)) + (IntKind.wrap .i64 (0 + 1)))))]?).bind (fun (v14 : Int) =>
               bif ((decide ((IntKind.wrap .i64 ((IntKind.wrap .i64 (0 + 1)) + 1)) < 4)) && (decide ((IntKind.wrap .i64 ((Int.tmod (IntKind.wrap .i64 a.2.1) (v4.1.length : Int)) + (IntKind.wrap .i64 ((IntKind.wrap .i64 (0 + 1)) + 1)))) < (v4.1.length : Int)))) then ((getI v4.1 (IntKind.wrap .i64 ((Int.tmod (IntKind.wrap .i64 a.2.1) (v4.1.length : Int)) + (IntKind.wrap .i64 ((IntKind.wrap .i64 (0 + 1)) + 1)))))).bind (fun (v15 : Int) =>
                 bif (inI (IntKind.wrap .i64 ((Int.tmod (IntKind.wrap .i64 a.2.1) (v4.1.length : Int)) + (IntKind.wrap .i64 ((IntKind.wrap .i64 (0 + 1)) + 1)))) (List.set (List.set v10 (Int.toNat (IntKind.wrap .i64 ((Int.tmod (IntKind.wrap .i64 a.2.1) (v4.1.length : Int)) + 0))) (Go.bits Go.BinOp.xor Go.IntKind.u8 v11 a.2.2.1.1)) (Int.toNat (IntKind.wrap .i64 ((Int.tmod (IntKind.wrap .i64 a.2.1) (v4.1.length : Int)) + (IntKind.wrap .i64 (0 + 1))))) (Go.bits Go.BinOp.xor Go.IntKind.u8 v13 a.2.2.1.2.1)).length) then ((List.set (List.set v10 (Int.toNat (IntKind.wrap .i64 ((Int.tmod (IntKind.wrap .i64 a.2.1) (v4.1.length : Int)) + 0))) (Go.bits Go.BinOp.xor Go.IntKind.u8 v11 a.2.2.1.1)) (Int.toNat (IntKind.wrap .i64 ((Int.tmod (IntKind.wrap .i64 a.2.1) (v4.1.length : Int)) + (IntKind.wrap .i64 (0 + 1))))) (Go.bits Go.BinOp.xor Go.IntKind.u8 v13 a.2.2.1.2.1))[(Int.toNat (IntKind.wrap .i64 ((Int.tmod (IntKind.wrap .i64 a.2.1) (v4.1.length : Int)) + (IntKind.wrap .i64 ((IntKind.wrap .i64 (0 + 1)) + 1)))))]?).bind (fun (v16 : Int) =>
                   bif ((decide ((IntKind.wrap .i64 ((IntKind.wrap .i64 ((IntKind.wrap .i64 (0 + 1)) + 1)) + 1)) < 4)) && (decide ((IntKind.wrap .i64 ((Int.tmod (IntKind.wrap .i64 a.2.1) (v4.1.length : Int)) + (IntKind.wrap .i64 ((IntKind.wrap .i64 ((IntKind.wrap .i64 (0 + 1)) + 1)) + 1)))) < (v4.1.length : Int)))) then ((getI v4.1 (IntKind.wrap .i64 ((Int.tmod (IntKind.wrap .i64 a.2.1) (v4.1.length : Int)) + (IntKind.wrap .i64 ((IntKind.wrap .i64 ((IntKind.wrap .i64 (0 + 1)) + 1)) + 1)))))).bind (fun (v17 : Int) =>
                     bif (inI (IntKind.wrap .i64 ((Int.tmod (IntKind.wrap .i64 a.2.1) (v4.1.length : Int)) + (IntKind.wrap .i64 ((IntKind.wrap .i64 ((IntKind.wrap .i64 (0 + 1)) + 1)) + 1)))) (List.set (List.set (List.set v10 (Int.toNat (IntKind.wrap .i64 ((Int.tmod (IntKind.wrap .i64 a.2.1) (v4.1.length : Int)) + 0))) (Go.bits Go.BinOp.xor Go.IntKind.u8 v11 a.2.2.1.1)) (Int.toNat (IntKind.wrap .i64 ((Int.tmod (IntKind.wrap .i64 a.2.1) (v4.1.length : Int)) + (IntKind.wrap .i64 (0 + 1))))) (Go.bits Go.BinOp.xor Go.IntKind.u8 v13 a.2.2.1.2.1)) (Int.toNat (IntKind.wrap .i64 ((Int.tmod (IntKind.wrap .i64 a.2.1) (v4.1.length : Int)) + (IntKind.wrap .i64 ((IntKind.wrap .i64 (0 + 1)) + 1))))) (Go.bits Go.BinOp.xor Go.IntKind.u8 v15 a.2.2.1.2.2.1)).length) then ((List.set (List.set (List.set v10 (Int.toNat (IntKind.wrap .i64 ((Int.tmod (IntKind.wrap .i64 a.2.1) (v4.1.length : Int)) + 0))) (Go.bits Go.BinOp.xor Go.IntKind.u8 v11 a.2.2.1.1)) (Int.toNat (IntKind.wrap .i64 ((Int.tmod (IntKind.wrap .i64 a.2.1) (v4.1.length : Int)) + (IntKind.wrap .i64 (0 + 1))))) (Go.bits Go.BinOp.xor Go.IntKind.u8 v13 a.2.2.1.2.1)) (Int.toNat (IntKind.wrap .i64 ((Int.tmod (IntKind.wrap .i64 a.2.1) (v4.1.length : Int)) + (IntKind.wrap .i64 ((IntKind.wrap .i64 (0 + 1)) + 1))))) (Go.bits Go.BinOp.xor Go.IntKind.u8 v15 a.2.2.1.2.2.1))[(Int.toNat (IntKind.wrap .i64 ((Int.tmod (IntKind.wrap .i64 a.2.1) (v4.1.length : Int)) + (IntKind.wrap .i64 ((IntKind.wrap .i64 ((IntKind.wrap .i64 (0 + 1)) + 1)) + 1)))))]?).bind (fun (v18 : Int) =>
                       bif ((decide ((IntKind.wrap .i64 ((IntKind.wrap .i64 ((IntKind.wrap .i64 ((IntKind.wrap .i64 (0 + 1)) + 1)) + 1)) + 1)) < 4)) && (decide ((IntKind.wrap .i64 ((Int.tmod (IntKind.wrap .i64 a.2.1) (v4.1.length : Int)) + (IntKind.wrap .i64 ((IntKind.wrap .i64 ((IntKind.wrap .i64 ((IntKind.wrap .i64 (0 + 1)) + 1)) + 1)) + 1)))) < (v4.1.length : Int)))) then ((getI v4.1 (IntKind.wrap .i64 ((Int.tmod (IntKind.wrap .i64 a.2.1) (v4.1.length : Int)) + (IntKind.wrap .i64 ((IntKind.wrap .i64 ((IntKind.wrap .i64 ((IntKind.wrap .i64 (0 + 1)) + 1)) + 1)) + 1)))))).bind (fun (v19 : Int) =>
                         none)
                       else some ((List.set (List.set (List.set (List.set v10 (Int.toNat (IntKind.wrap .i64 ((Int.tmod (IntKind.wrap .i64 a.2.1) (v4.1.length : Int)) + 0))) (Go.bits Go.BinOp.xor Go.IntKind.u8 v11 a.2.2.1.1)) (Int.toNat (IntKind.wrap .i64 ((Int.tmod (IntKind.wrap .i64 a.2.1) (v4.1.length : Int)) + (IntKind.wrap .i64 (0 + 1))))) (Go.bits Go.BinOp.xor Go.IntKind.u8 v13 a.2.2.1.2.1)) (Int.toNat (IntKind.wrap .i64 ((Int.tmod (IntKind.wrap .i64 a.2.1) (v4.1.length : Int)) + (IntKind.wrap .i64 ((IntKind.wrap .i64 (0 + 1)) + 1))))) (Go.bits Go.BinOp.xor Go.IntKind.u8 v15 a.2.2.1.2.2.1)) (Int.toNat (IntKind.wrap .i64 ((Int.tmod (IntKind.wrap .i64 a.2.1) (v4.1.length : Int)) + (IntKind.wrap .i64 ((IntKind.wrap .i64 ((IntKind.wrap .i64 (0 + 1)) + 1)) + 1))))) (Go.bits Go.BinOp.xor Go.IntKind.u8 v17 a.2.2.1.2.2.2.1)), ()))
                     else none)
                   else some ((List.set (List.set (List.set v10 (Int.toNat (IntKind.wrap .i64 ((Int.tmod (IntKind.wrap .i64 a.2.1) (v4.1.length : Int)) + 0))) (Go.bits Go.BinOp.xor Go.IntKind.u8 v11 a.2.2.1.1)) (Int.toNat (IntKind.wrap .i64 ((Int.tmod (IntKind.wrap .i64 a.2.1) (v4.1.length : Int)) + (IntKind.wrap .i64 (0 + 1))))) (Go.bits Go.BinOp.xor Go.IntKind.u8 v13 a.2.2.1.2.1)) (Int.toNat (IntKind.wrap .i64 ((Int.tmod (IntKind.wrap .i64 a.2.1) (v4.1.length : Int)) + (IntKind.wrap .i64 ((IntKind.wrap .i64 (0 + 1)) + 1))))) (Go.bits Go.BinOp.xor Go.IntKind.u8 v15 a.2.2.1.2.2.1)), ()))
                 else none)
               else some ((List.set (List.set v10 (Int.toNat (IntKind.wrap .i64 ((Int.tmod (IntKind.wrap .i64 a.2.1) (v4.1.length : Int)) + 0))) (Go.bits Go.BinOp.xor Go.IntKind.u8 v11 a.2.2.1.1)) (Int.toNat (IntKind.wrap .i64 ((Int.tmod (IntKind.wrap .i64 a.2.1) (v4.1.length : Int)) + (IntKind.wrap .i64 (0 + 1))))) (Go.bits Go.BinOp.xor Go.IntKind.u8 v13 a.2.2.1.2.1)), ()))
             else none)
           else some ((List.set v10 (Int.toNat (IntKind.wrap .i64 ((Int.tmod (IntKind.wrap .i64 a.2.1) (v4.1.length : Int)) + 0))) (Go.bits Go.BinOp.xor Go.IntKind.u8 v11 a.2.2.1.1)), ()))
         else none)
       else some (v10, ())).bind (fun (v20 : ((List Int) × Unit)) =>
       ((g_scan_Scan (v20.1, a.2.2.2))).bind (fun (v21 : ((List FrameT) × (Int × Unit))) =>
        ((subI a.1 0 (IntKind.wrap .i64 (Int.tdiv v9.1 72)))).bind (fun (v22 : (List FrameT)) =>
         ((g_ref05_Same (v21.1, (v22, ())))).bind (fun (v23 : Bool) =>
          some (v23 && (v21.2.1 == (IntKind.wrap .i64 ((v21.1.length : Int) * 72)))))))))))))
noncomputable def tc8 : TCn := ⟨[(.slice 9 shFrame), (.int .u16), (.cons (.int .u8) (.cons (.int .u8) (.cons (.int .u8) (.cons (.int .u8) .nil)))), (.int .i64), (.int .i64)], [.bool], g_law05_ScanTurned⟩
noncomputable def T8 := (8, tc8) :: T7
theorem t8 : Tbl Try.prog T8 := Tbl.add t7 hn 5 8 tc8 (by kernel_rfl) (fun a => by kernel_rfl)
noncomputable def g_law05_ScanJoins (a : ((List FrameT) × ((List FrameT) × NextT))) : Option Bool :=
 ((g_law05_awake ())).bind (fun (v1 : Bool) =>
  bif (!v1) then some false
  else (
   bif ((decide ((a.1.length : Int) > 20)) || (decide ((a.2.1.length : Int) > 20))) then some true
   else ((g_scan_Row (a.1, a.2.2))).bind (fun (v2 : Bool) =>
    some (!v2))).bind (fun (v3 : Bool) =>
   bif v3 then some true
   else (
    bif (decide ((a.1.length : Int) > 0)) then ((getI a.1 (IntKind.wrap .i64 ((a.1.length : Int) - 1)))).bind (fun (v4 : FrameT) =>
      some (v4.1, (v4.2.1, (v4.2.2.1, v4.2.2.2.1))))
    else some (a.2.2.2.1, ((IntKind.wrap .i64 (a.2.2.1 - 1)), (0, (0, (0, (0, (0, (0, (0, ())))))))))).bind (fun (v5 : (Int × (Int × (Int × (Int × NoteT))))) =>
    ((appX [] a.1 72)).bind (fun (v6 : (List FrameT)) =>
     ((appX v6 a.2.1 72)).bind (fun (v7 : (List FrameT)) =>
      (
       bif (decide (a.2.2.1 < 1)) then some true
       else ((g_scan_Row (v7, a.2.2))).bind (fun (v8 : Bool) =>
        ((g_scan_Row (a.2.1, ((IntKind.wrap .i64 (v5.2.1 + 1)), (v5.1, ()))))).bind (fun (v9 : Bool) =>
         some (v8 != v9)))).bind (fun (v10 : Bool) =>
       bif v10 then some (decide (a.2.2.1 < 1))
       else ((g_scan_Put (a.1, ()))).bind (fun (v11 : ((List Int) × (Int × Unit))) =>
        ((g_scan_Put (a.2.1, ()))).bind (fun (v12 : ((List Int) × (Int × Unit))) =>
         bif ((v11.2.1 != 0) || (v12.2.1 != 0)) then some (v11.2.1 == 0)
         else ((appX [] v11.1 1)).bind (fun (v13 : (List Int)) =>
          ((appX v13 v12.1 1)).bind (fun (v14 : (List Int)) =>
           ((g_scan_Scan (v14, a.2.2))).bind (fun (v15 : ((List FrameT) × (Int × Unit))) =>
            ((g_scan_Scan (v12.1, ((IntKind.wrap .i64 (v5.2.1 + 1)), (v5.1, ()))))).bind (fun (v16 : ((List FrameT) × (Int × Unit))) =>
             ((appX [] a.1 72)).bind (fun (v17 : (List FrameT)) =>
              ((appX v17 v16.1 72)).bind (fun (v18 : (List FrameT)) =>
               ((g_ref05_Same (v15.1, (v18, ())))).bind (fun (v19 : Bool) =>
                some v19)))))))))))))))
noncomputable def tc9 : TCn := ⟨[(.slice 9 shFrame), (.slice 9 shFrame), (.int .i64), (.int .i64)], [.bool], g_law05_ScanJoins⟩
noncomputable def T9 := (9, tc9) :: T8
theorem t9 : Tbl Try.prog T9 := Tbl.add t8 hn 5 9 tc9 (by kernel_rfl) (fun a => by kernel_rfl)
end Go.AI
