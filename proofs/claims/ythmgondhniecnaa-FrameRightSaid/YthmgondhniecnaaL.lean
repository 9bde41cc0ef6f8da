/- What Go functions come to, as functions of data with a kind; printed by a program, with the proof that the given functions answer just that. -/
import Derived.Test.YthmgondhniecnaaLE
import Derived.Test.YthmgondhniecnaaProg
namespace Go.AI
open Go.Proofs
set_option linter.unusedVariables false
abbrev NextT := (Int × (Int × Unit))
abbrev shNext : Sh := (.cons (.int .i64) (.cons (.int .i64) .nil))
abbrev FrameT := (Int × (Int × (Int × ((Int × (Int × (Int × (Int × NextT)))) × Unit))))
abbrev shFrame : Sh := (.cons (.int .i64) (.cons (.int .i64) (.cons (.int .i64) (.cons (.cons (.int .i64) (.cons (.int .i64) (.cons (.int .i64) (.cons (.int .i64) shNext)))) .nil))))
def hnL : List (Nat × List (Nat × Hint)) := [(55, [(0, .j [⟨.t 0, [.v (.int .u32)]⟩]), (1, .j [⟨.t 0, [.v (.int .u32)]⟩, ⟨.t 4, [.v (.int .i64)]⟩]), (4, .j [⟨.t 0, [.v (.int .u32)]⟩])]),
 (53, [(0, .j [⟨.t 5, [.v (.int .u32)]⟩]), (1, .j [⟨.t 5, [.v (.int .u32)]⟩, ⟨.t 12, [.v (.int .i64)]⟩])]),
 (54, [(0, .j [⟨.t 5, [.v (.int .u32)]⟩]), (1, .j [⟨.t 5, [.v (.int .u32)]⟩, ⟨.t 6, [.v (.int .i64)]⟩]), (4, .j [⟨.t 5, [.v (.int .u32)]⟩]), (5, .j [⟨.t 5, [.v (.int .u32)]⟩, ⟨.t 7, [.v (.int .i64)]⟩]), (8, .j [⟨.t 5, [.v (.int .u32)]⟩])]),
 (17, [(1, .u 9)]),
 (19, [(3, .u 9)]),
 (15, [(2, .u 9)]),
 (18, [(1, .j [⟨.t 7, [.v .bool]⟩]), (2, .j [⟨.t 7, [.v .bool]⟩, ⟨.t 25, [.v (.int .i64)]⟩]), (9, .u 9)]),
 (44, [(0, .j [⟨.t 5, [.v (.int .u64)]⟩]), (1, .j [⟨.t 5, [.v (.int .u64)]⟩, ⟨.t 14, [.v (.int .i64)]⟩])]),
 (39, [(0, .j [⟨.b 0 [], [.r (.int .u8)]⟩]), (1, .j [⟨.t 6, [.v (.int .i64)]⟩, ⟨.b 0 [], [.r (.int .u8)]⟩])])]
def hnOf : List (Nat × List (Nat × Hint)) → Nat → List (Nat × Hint)
  | [], _ => []
  | (k, x) :: l, f => match Nat.beq k f with
    | true => x
    | false => hnOf l f
def hn : FuncId → List (Nat × Hint) := fun f => hnOf hnL f
noncomputable def g_frame_Right (a : (FrameT × Unit)) : Option Bool :=
 some ((((((decide (a.1.1 ≥ 1)) && (decide (a.1.1 ≤ 1000000))) && (decide (a.1.2.1 ≥ 1))) && (decide (a.1.2.1 ≤ 1000000000))) && (decide (a.1.2.2.1 ≥ 1))) && (decide (a.1.2.2.1 ≤ 6)))
noncomputable def tc16 : TCn := ⟨[shFrame], [.bool], g_frame_Right⟩
noncomputable def T16 := (16, tc16) :: ([] : List (FuncId × TCn))
theorem t16 : Tbl Try.prog T16 := Tbl.add .nil hn 5 16 tc16 (by kernel_rfl) (fun a => by kernel_rfl)
noncomputable def g_ref04_Right (a : (FrameT × Unit)) : Option Bool :=
 some ((((((decide (a.1.1 > 0)) && (decide (a.1.1 ≤ 1000000))) && (decide (a.1.2.1 > 0))) && (decide (a.1.2.1 ≤ 1000000000))) && (decide (a.1.2.2.1 > 0))) && (decide (a.1.2.2.1 < 7)))
noncomputable def tc14 : TCn := ⟨[shFrame], [.bool], g_ref04_Right⟩
noncomputable def T14 := (14, tc14) :: T16
theorem t14 : Tbl Try.prog T14 := Tbl.add t16 hn 5 14 tc14 (by kernel_rfl) (fun a => by kernel_rfl)
noncomputable def g_crc_step (a : (Int × Unit)) : Option Int :=
 (
  loopO (fun (v1 : NextT) =>
   bif (decide (v1.2.1 < 4)) then (
     bif ((Go.bits Go.BinOp.and Go.IntKind.u32 v1.1 1) == 1) then some ((Go.bits Go.BinOp.xor Go.IntKind.u32 (Int.fdiv v1.1 (2 ^ 1)) 3988292384), ())
     else some ((Int.fdiv v1.1 (2 ^ 1)), ())).bind (fun (v2 : (Int × Unit)) =>
     some (.inl (v2.1, ((IntKind.wrap .i64 (v1.2.1 + 1)), ()))))
   else (some (v1.1, ())).map .inr) (a.1, (0, ()))).bind (fun (v3 : (Int × Unit)) =>
  some v3.1)
noncomputable def tc55 : TCn := ⟨[(.int .u32)], [(.int .u32)], g_crc_step⟩
noncomputable def T55 := (55, tc55) :: T14
theorem t55 : Tbl Try.prog T55 := Tbl.add t14 hn 5 55 tc55 (by kernel_rfl) (fun a => by kernel_rfl)
noncomputable def g_crc_More (a : (Int × ((List Int) × Unit))) : Option Int :=
 (
  loopO (fun (v1 : NextT) =>
   bif (decide (v1.2.1 < (a.2.1.length : Int))) then ((getI a.2.1 v1.2.1)).bind (fun (v2 : Int) =>
     ((g_crc_step ((Go.bits Go.BinOp.and Go.IntKind.u32 (Go.bits Go.BinOp.xor Go.IntKind.u32 v1.1 (IntKind.wrap .u32 v2)) 15), ()))).bind (fun (v3 : Int) =>
      ((g_crc_step ((Go.bits Go.BinOp.and Go.IntKind.u32 (Go.bits Go.BinOp.xor Go.IntKind.u32 v3 (Int.fdiv (Go.bits Go.BinOp.xor Go.IntKind.u32 v1.1 (IntKind.wrap .u32 v2)) (2 ^ 4))) 15), ()))).bind (fun (v4 : Int) =>
       some (.inl ((Go.bits Go.BinOp.xor Go.IntKind.u32 v4 (Int.fdiv (Go.bits Go.BinOp.xor Go.IntKind.u32 v3 (Int.fdiv (Go.bits Go.BinOp.xor Go.IntKind.u32 v1.1 (IntKind.wrap .u32 v2)) (2 ^ 4))) (2 ^ 4))), ((IntKind.wrap .i64 (v1.2.1 + 1)), ()))))))
   else (some (v1.1, ())).map .inr) ((Go.bits Go.BinOp.xor Go.IntKind.u32 (if ((Go.IntKind.signed Go.IntKind.u32) = true) then (-1) else (Go.IntKind.max Go.IntKind.u32)) a.1), (0, ()))).bind (fun (v5 : (Int × Unit)) =>
  some (Go.bits Go.BinOp.xor Go.IntKind.u32 (if ((Go.IntKind.signed Go.IntKind.u32) = true) then (-1) else (Go.IntKind.max Go.IntKind.u32)) v5.1))
noncomputable def tc53 : TCn := ⟨[(.int .u32), (.slice 1 (.int .u8))], [(.int .u32)], g_crc_More⟩
noncomputable def T53 := (53, tc53) :: T55
theorem t53 : Tbl Try.prog T53 := Tbl.add t55 hn 5 53 tc53 (by kernel_rfl) (fun a => by kernel_rfl)
noncomputable def g_crc_Sum (a : ((List Int) × Unit)) : Option Int :=
 ((g_crc_More (0, a))).bind (fun (v1 : Int) =>
  some v1)
noncomputable def tc40 : TCn := ⟨[(.slice 1 (.int .u8))], [(.int .u32)], g_crc_Sum⟩
noncomputable def T40 := (40, tc40) :: T53
theorem t40 : Tbl Try.prog T40 := Tbl.add t53 hn 5 40 tc40 (by kernel_rfl) (fun a => by kernel_rfl)
noncomputable def g_ref02_More (a : (Int × ((List Int) × Unit))) : Option Int :=
 (
  loopO (fun (v1 : NextT) =>
   bif (decide (v1.2.1 < (a.2.1.length : Int))) then ((getI a.2.1 v1.2.1)).bind (fun (v2 : Int) =>
     (
      loopO (fun (v3 : NextT) =>
       bif (decide (v3.2.1 < 8)) then (
         bif ((Int.tmod v3.1 2) == 1) then some ((Go.bits Go.BinOp.xor Go.IntKind.u32 (IntKind.wrap .u32 (Int.tdiv v3.1 2)) 3988292384), ())
         else some ((IntKind.wrap .u32 (Int.tdiv v3.1 2)), ())).bind (fun (v4 : (Int × Unit)) =>
         some (.inl (v4.1, ((IntKind.wrap .i64 (v3.2.1 + 1)), ()))))
       else (some (v3.1, ())).map .inr) ((Go.bits Go.BinOp.xor Go.IntKind.u32 v1.1 (IntKind.wrap .u32 v2)), (0, ()))).bind (fun (v5 : (Int × Unit)) =>
      some (.inl (v5.1, ((IntKind.wrap .i64 (v1.2.1 + 1)), ())))))
   else (some (v1.1, ())).map .inr) ((Go.bits Go.BinOp.xor Go.IntKind.u32 a.1 4294967295), (0, ()))).bind (fun (v6 : (Int × Unit)) =>
  some (Go.bits Go.BinOp.xor Go.IntKind.u32 v6.1 4294967295))
noncomputable def tc54 : TCn := ⟨[(.int .u32), (.slice 1 (.int .u8))], [(.int .u32)], g_ref02_More⟩
noncomputable def T54 := (54, tc54) :: T40
theorem t54 : Tbl Try.prog T54 := Tbl.add t40 hn 5 54 tc54 (by kernel_rfl) (fun a => by kernel_rfl)
noncomputable def g_ref02_Sum (a : ((List Int) × Unit)) : Option Int :=
 ((g_ref02_More (0, a))).bind (fun (v1 : Int) =>
  some v1)
noncomputable def tc43 : TCn := ⟨[(.slice 1 (.int .u8))], [(.int .u32)], g_ref02_Sum⟩
noncomputable def T43 := (43, tc43) :: T54
theorem t43 : Tbl Try.prog T43 := Tbl.add t54 hn 5 43 tc43 (by kernel_rfl) (fun a => by kernel_rfl)
noncomputable def g_ref04_eight (a : (Int × Unit)) : Option (List Int) :=
 ((appX ((IntKind.wrap .u8 (Int.fdiv (Int.fdiv (IntKind.wrap .u64 a.1) (2 ^ 32)) (2 ^ 24))) :: ((IntKind.wrap .u8 (Int.fdiv (Int.fdiv (IntKind.wrap .u64 a.1) (2 ^ 32)) (2 ^ 16))) :: ((IntKind.wrap .u8 (Int.fdiv (Int.fdiv (IntKind.wrap .u64 a.1) (2 ^ 32)) (2 ^ 8))) :: ((IntKind.wrap .u8 (Int.fdiv (IntKind.wrap .u64 a.1) (2 ^ 32))) :: [])))) ((IntKind.wrap .u8 (Int.fdiv (IntKind.wrap .u64 a.1) (2 ^ 24))) :: ((IntKind.wrap .u8 (Int.fdiv (IntKind.wrap .u64 a.1) (2 ^ 16))) :: ((IntKind.wrap .u8 (Int.fdiv (IntKind.wrap .u64 a.1) (2 ^ 8))) :: ((IntKind.wrap .u8 (IntKind.wrap .u64 a.1)) :: [])))) 1)).bind (fun (v1 : (List Int)) =>
  some v1)
noncomputable def tc42 : TCn := ⟨[(.int .i64)], [(.slice 1 (.int .u8))], g_ref04_eight⟩
noncomputable def T42 := (42, tc42) :: T43
theorem t42 : Tbl Try.prog T42 := Tbl.add t43 hn 5 42 tc42 (by kernel_rfl) (fun a => by kernel_rfl)
noncomputable def g_ref04_Encode (a : (FrameT × Unit)) : Option (List Int) :=
 ((appX (0 :: (0 :: (0 :: (72 :: [])))) ((IntKind.wrap .u8 (Int.fdiv (IntKind.wrap .u64 a.1.1) (2 ^ 24))) :: ((IntKind.wrap .u8 (Int.fdiv (IntKind.wrap .u64 a.1.1) (2 ^ 16))) :: ((IntKind.wrap .u8 (Int.fdiv (IntKind.wrap .u64 a.1.1) (2 ^ 8))) :: ((IntKind.wrap .u8 (IntKind.wrap .u64 a.1.1)) :: [])))) 1)).bind (fun (v1 : (List Int)) =>
  ((g_ref04_eight (a.1.2.1, ()))).bind (fun (v2 : (List Int)) =>
   ((appX v1 v2 1)).bind (fun (v3 : (List Int)) =>
    ((appX v3 ((IntKind.wrap .u8 (Int.fdiv (IntKind.wrap .u64 a.1.2.2.1) (2 ^ 24))) :: ((IntKind.wrap .u8 (Int.fdiv (IntKind.wrap .u64 a.1.2.2.1) (2 ^ 16))) :: ((IntKind.wrap .u8 (Int.fdiv (IntKind.wrap .u64 a.1.2.2.1) (2 ^ 8))) :: ((IntKind.wrap .u8 (IntKind.wrap .u64 a.1.2.2.1)) :: [])))) 1)).bind (fun (v4 : (List Int)) =>
     ((g_ref04_eight (a.1.2.2.2.1.1, ()))).bind (fun (v5 : (List Int)) =>
      ((appX v4 v5 1)).bind (fun (v6 : (List Int)) =>
       ((g_ref04_eight (a.1.2.2.2.1.2.1, ()))).bind (fun (v7 : (List Int)) =>
        ((appX v6 v7 1)).bind (fun (v8 : (List Int)) =>
         ((g_ref04_eight (a.1.2.2.2.1.2.2.1, ()))).bind (fun (v9 : (List Int)) =>
          ((appX v8 v9 1)).bind (fun (v10 : (List Int)) =>
           ((g_ref04_eight (a.1.2.2.2.1.2.2.2.1, ()))).bind (fun (v11 : (List Int)) =>
            ((appX v10 v11 1)).bind (fun (v12 : (List Int)) =>
             ((g_ref04_eight (a.1.2.2.2.1.2.2.2.2.1, ()))).bind (fun (v13 : (List Int)) =>
              ((appX v12 v13 1)).bind (fun (v14 : (List Int)) =>
               ((g_ref04_eight a.1.2.2.2.1.2.2.2.2.2)).bind (fun (v15 : (List Int)) =>
                ((appX v14 v15 1)).bind (fun (v16 : (List Int)) =>
                 ((g_ref02_Sum (v16, ()))).bind (fun (v17 : Int) =>
                  ((appX v16 ((IntKind.wrap .u8 (Int.tmod v17 256)) :: ((IntKind.wrap .u8 (Int.tmod (IntKind.wrap .u32 (Int.tdiv v17 256)) 256)) :: ((IntKind.wrap .u8 (Int.tmod (IntKind.wrap .u32 (Int.tdiv v17 65536)) 256)) :: ((IntKind.wrap .u8 (IntKind.wrap .u32 (Int.tdiv v17 16777216))) :: [])))) 1)).bind (fun (v18 : (List Int)) =>
                   some v18))))))))))))))))))
noncomputable def tc17 : TCn := ⟨[shFrame], [(.slice 1 (.int .u8))], g_ref04_Encode⟩
noncomputable def T17 := (17, tc17) :: T42
theorem t17 : Tbl Try.prog T17 := Tbl.add t42 hn 5 17 tc17 (by kernel_rfl) (fun a => by kernel_rfl)
noncomputable def g_ref04_number (a : ((List Int) × (Int × Unit))) : Option Int :=
 ((getI a.1 a.2.1)).bind (fun (v1 : Int) =>
  ((getI a.1 (IntKind.wrap .i64 (a.2.1 + 1)))).bind (fun (v2 : Int) =>
   ((getI a.1 (IntKind.wrap .i64 (a.2.1 + 2)))).bind (fun (v3 : Int) =>
    ((getI a.1 (IntKind.wrap .i64 (a.2.1 + 3)))).bind (fun (v4 : Int) =>
     some (IntKind.wrap .i64 ((IntKind.wrap .i64 ((IntKind.wrap .i64 ((IntKind.wrap .i64 ((IntKind.wrap .i64 v1) * (2 ^ 24))) + (IntKind.wrap .i64 ((IntKind.wrap .i64 v2) * (2 ^ 16))))) + (IntKind.wrap .i64 ((IntKind.wrap .i64 v3) * (2 ^ 8))))) + (IntKind.wrap .i64 v4)))))))
noncomputable def tc45 : TCn := ⟨[(.slice 1 (.int .u8)), (.int .i64)], [(.int .i64)], g_ref04_number⟩
noncomputable def T45 := (45, tc45) :: T17
theorem t45 : Tbl Try.prog T45 := Tbl.add t17 hn 5 45 tc45 (by kernel_rfl) (fun a => by kernel_rfl)
noncomputable def g_ref04_Decode (a : ((List Int) × Unit)) : Option (FrameT × (Int × Unit)) :=
 (
  bif ((a.1.length : Int) != 72) then some true
  else ((g_ref04_number (a.1, (0, ())))).bind (fun (v1 : Int) =>
   some (v1 != 72))).bind (fun (v2 : Bool) =>
  bif v2 then some ((0, (0, (0, ((0, (0, (0, (0, (0, (0, ())))))), ())))), (2, ()))
  else ((subI a.1 0 68)).bind (fun (v3 : (List Int)) =>
   ((g_ref02_Sum (v3, ()))).bind (fun (v4 : Int) =>
    ((getI a.1 68)).bind (fun (v5 : Int) =>
     (
      bif (v5 != (IntKind.wrap .u8 v4)) then some true
      else ((getI a.1 69)).bind (fun (v6 : Int) =>
       some (v6 != (IntKind.wrap .u8 (Int.fdiv v4 (2 ^ 8)))))).bind (fun (v7 : Bool) =>
      (
       bif v7 then some true
       else ((getI a.1 70)).bind (fun (v8 : Int) =>
        some (v8 != (IntKind.wrap .u8 (Int.fdiv v4 (2 ^ 16)))))).bind (fun (v9 : Bool) =>
       (
        bif v9 then some true
        else ((getI a.1 71)).bind (fun (v10 : Int) =>
         some (v10 != (IntKind.wrap .u8 (Int.fdiv v4 (2 ^ 24)))))).bind (fun (v11 : Bool) =>
        bif v11 then some ((0, (0, (0, ((0, (0, (0, (0, (0, (0, ())))))), ())))), (10, ()))
        else ((g_ref04_number (a.1, (4, ())))).bind (fun (v12 : Int) =>
         ((g_ref04_number (a.1, (16, ())))).bind (fun (v13 : Int) =>
          ((g_ref04_number (a.1, (8, ())))).bind (fun (v14 : Int) =>
           ((g_ref04_number (a.1, (12, ())))).bind (fun (v15 : Int) =>
            ((g_ref04_number (a.1, ((IntKind.wrap .i64 (20 + (IntKind.wrap .i64 (8 * 0)))), ())))).bind (fun (v16 : Int) =>
             ((g_ref04_number (a.1, ((IntKind.wrap .i64 (24 + (IntKind.wrap .i64 (8 * 0)))), ())))).bind (fun (v17 : Int) =>
              ((g_ref04_number (a.1, ((IntKind.wrap .i64 (20 + (IntKind.wrap .i64 (8 * (IntKind.wrap .i64 (0 + 1)))))), ())))).bind (fun (v18 : Int) =>
               ((g_ref04_number (a.1, ((IntKind.wrap .i64 (24 + (IntKind.wrap .i64 (8 * (IntKind.wrap .i64 (0 + 1)))))), ())))).bind (fun (v19 : Int) =>
                ((g_ref04_number (a.1, ((IntKind.wrap .i64 (20 + (IntKind.wrap .i64 (8 * (IntKind.wrap .i64 ((IntKind.wrap .i64 (0 + 1)) + 1)))))), ())))).bind (fun (v20 : Int) =>
                 ((g_ref04_number (a.1, ((IntKind.wrap .i64 (24 + (IntKind.wrap .i64 (8 * (IntKind.wrap .i64 ((IntKind.wrap .i64 (0 + 1)) + 1)))))), ())))).bind (fun (v21 : Int) =>
                  ((g_ref04_number (a.1, ((IntKind.wrap .i64 (20 + (IntKind.wrap .i64 (8 * (IntKind.wrap .i64 ((IntKind.wrap .i64 ((IntKind.wrap .i64 (0 + 1)) + 1)) + 1)))))), ())))).bind (fun (v22 : Int) =>
                   ((g_ref04_number (a.1, ((IntKind.wrap .i64 (24 + (IntKind.wrap .i64 (8 * (IntKind.wrap .i64 ((IntKind.wrap .i64 ((IntKind.wrap .i64 (0 + 1)) + 1)) + 1)))))), ())))).bind (fun (v23 : Int) =>
                    ((g_ref04_number (a.1, ((IntKind.wrap .i64 (20 + (IntKind.wrap .i64 (8 * (IntKind.wrap .i64 ((IntKind.wrap .i64 ((IntKind.wrap .i64 ((IntKind.wrap .i64 (0 + 1)) + 1)) + 1)) + 1)))))), ())))).bind (fun (v24 : Int) =>
                     ((g_ref04_number (a.1, ((IntKind.wrap .i64 (24 + (IntKind.wrap .i64 (8 * (IntKind.wrap .i64 ((IntKind.wrap .i64 ((IntKind.wrap .i64 ((IntKind.wrap .i64 (0 + 1)) + 1)) + 1)) + 1)))))), ())))).bind (fun (v25 : Int) =>
                      ((g_ref04_number (a.1, ((IntKind.wrap .i64 (20 + (IntKind.wrap .i64 (8 * (IntKind.wrap .i64 ((IntKind.wrap .i64 ((IntKind.wrap .i64 ((IntKind.wrap .i64 ((IntKind.wrap .i64 (0 + 1)) + 1)) + 1)) + 1)) + 1)))))), ())))).bind (fun (v26 : Int) =>
                       ((g_ref04_number (a.1, ((IntKind.wrap .i64 (24 + (IntKind.wrap .i64 (8 * (IntKind.wrap .i64 ((IntKind.wrap .i64 ((IntKind.wrap .i64 ((IntKind.wrap .i64 ((IntKind.wrap .i64 (0 + 1)) + 1)) + 1)) + 1)) + 1)))))), ())))).bind (fun (v27 : Int) =>
                        ((g_ref04_Right ((v12, ((Go.bits Go.BinOp.or Go.IntKind.i64 (IntKind.wrap .i64 (v14 * (2 ^ 32))) v15), (v13, (((Go.bits Go.BinOp.or Go.IntKind.i64 (IntKind.wrap .i64 (v16 * (2 ^ 32))) v17), ((Go.bits Go.BinOp.or Go.IntKind.i64 (IntKind.wrap .i64 (v18 * (2 ^ 32))) v19), ((Go.bits Go.BinOp.or Go.IntKind.i64 (IntKind.wrap .i64 (v20 * (2 ^ 32))) v21), ((Go.bits Go.BinOp.or Go.IntKind.i64 (IntKind.wrap .i64 (v22 * (2 ^ 32))) v23), ((Go.bits Go.BinOp.or Go.IntKind.i64 (IntKind.wrap .i64 (v24 * (2 ^ 32))) v25), ((Go.bits Go.BinOp.or Go.IntKind.i64 (IntKind.wrap .i64 (v26 * (2 ^ 32))) v27), ())))))), ())))), ()))).bind (fun (v28 : Bool) =>
                         bif (!v28) then some ((0, (0, (0, ((0, (0, (0, (0, (0, (0, ())))))), ())))), (2, ()))
                         else some ((v12, ((Go.bits Go.BinOp.or Go.IntKind.i64 (IntKind.wrap .i64 (v14 * (2 ^ 32))) v15), (v13, (((Go.bits Go.BinOp.or Go.IntKind.i64 (IntKind.wrap .i64 (v16 * (2 ^ 32))) v17), ((Go.bits Go.BinOp.or Go.IntKind.i64 (IntKind.wrap .i64 (v18 * (2 ^ 32))) v19), ((Go.bits Go.BinOp.or Go.IntKind.i64 (IntKind.wrap .i64 (v20 * (2 ^ 32))) v21), ((Go.bits Go.BinOp.or Go.IntKind.i64 (IntKind.wrap .i64 (v22 * (2 ^ 32))) v23), ((Go.bits Go.BinOp.or Go.IntKind.i64 (IntKind.wrap .i64 (v24 * (2 ^ 32))) v25), ((Go.bits Go.BinOp.or Go.IntKind.i64 (IntKind.wrap .i64 (v26 * (2 ^ 32))) v27), ())))))), ())))), (0, ()))))))))))))))))))))))))))
noncomputable def tc19 : TCn := ⟨[(.slice 1 (.int .u8))], [shFrame, (.int .i64)], g_ref04_Decode⟩
noncomputable def T19 := (19, tc19) :: T45
theorem t19 : Tbl Try.prog T19 := Tbl.add t45 hn 5 19 tc19 (by kernel_rfl) (fun a => by kernel_rfl)
noncomputable def g_frame_Encode (a : (FrameT × Unit)) : Option ((List Int) × (Int × Unit)) :=
 ((g_frame_Right a)).bind (fun (v1 : Bool) =>
  bif (!v1) then some ([], (1, ()))
  else (
   loopO (fun (v2 : (Int × ((List Int) × Unit))) =>
    bif (decide (v2.1 ≥ 0)) then bif (decide (0 ≤ (IntKind.wrap .i64 (8 * v2.1)))) then ((appX v2.2.1 ((IntKind.wrap .u8 (Int.fdiv 72 (2 ^ (Min.min (Int.toNat (IntKind.wrap .i64 (8 * v2.1))) 64)))) :: []) 1)).bind (fun (v3 : (List Int)) =>
       some (.inl ((IntKind.wrap .i64 (v2.1 - 1)), (v3, ()))))
     else none
    else (some v2.2).map .inr) ((IntKind.wrap .i64 (4 - 1)), ([], ()))).bind (fun (v4 : ((List Int) × Unit)) =>
   (
    loopO (fun (v5 : (Int × ((List Int) × Unit))) =>
     bif (decide (v5.1 ≥ 0)) then bif (decide (0 ≤ (IntKind.wrap .i64 (8 * v5.1)))) then ((appX v5.2.1 ((IntKind.wrap .u8 (Int.fdiv (IntKind.wrap .u64 a.1.1) (2 ^ (Min.min (Int.toNat (IntKind.wrap .i64 (8 * v5.1))) 64)))) :: []) 1)).bind (fun (v6 : (List Int)) =>
        some (.inl ((IntKind.wrap .i64 (v5.1 - 1)), (v6, ()))))
      else none
     else (some v5.2).map .inr) ((IntKind.wrap .i64 (4 - 1)), v4)).bind (fun (v7 : ((List Int) × Unit)) =>
    (
     loopO (fun (v8 : (Int × ((List Int) × Unit))) =>
      bif (decide (v8.1 ≥ 0)) then bif (decide (0 ≤ (IntKind.wrap .i64 (8 * v8.1)))) then ((appX v8.2.1 ((IntKind.wrap .u8 (Int.fdiv (IntKind.wrap .u64 a.1.2.1) (2 ^ (Min.min (Int.toNat (IntKind.wrap .i64 (8 * v8.1))) 64)))) :: []) 1)).bind (fun (v9 : (List Int)) =>
         some (.inl ((IntKind.wrap .i64 (v8.1 - 1)), (v9, ()))))
       else none
      else (some v8.2).map .inr) ((IntKind.wrap .i64 (8 - 1)), v7)).bind (fun (v10 : ((List Int) × Unit)) =>
     (
      loopO (fun (v11 : (Int × ((List Int) × Unit))) =>
       bif (decide (v11.1 ≥ 0)) then bif (decide (0 ≤ (IntKind.wrap .i64 (8 * v11.1)))) then ((appX v11.2.1 ((IntKind.wrap .u8 (Int.fdiv (IntKind.wrap .u64 a.1.2.2.1) (2 ^ (Min.min (Int.toNat (IntKind.wrap .i64 (8 * v11.1))) 64)))) :: []) 1)).bind (fun (v12 : (List Int)) =>
          some (.inl ((IntKind.wrap .i64 (v11.1 - 1)), (v12, ()))))
        else none
       else (some v11.2).map .inr) ((IntKind.wrap .i64 (4 - 1)), v10)).bind (fun (v13 : ((List Int) × Unit)) =>
      (
       loopO (fun (v14 : (Int × ((List Int) × Unit))) =>
        bif (decide (v14.1 ≥ 0)) then bif (decide (0 ≤ (IntKind.wrap .i64 (8 * v14.1)))) then ((appX v14.2.1 ((IntKind.wrap .u8 (Int.fdiv (IntKind.wrap .u64 a.1.2.2.2.1.1) (2 ^ (Min.min (Int.toNat (IntKind.wrap .i64 (8 * v14.1))) 64)))) :: []) 1)).bind (fun (v15 : (List Int)) =>
           some (.inl ((IntKind.wrap .i64 (v14.1 - 1)), (v15, ()))))
         else none
        else (some v14.2).map .inr) ((IntKind.wrap .i64 (8 - 1)), v13)).bind (fun (v16 : ((List Int) × Unit)) =>
       (
        loopO (fun (v17 : (Int × ((List Int) × Unit))) =>
         bif (decide (v17.1 ≥ 0)) then bif (decide (0 ≤ (IntKind.wrap .i64 (8 * v17.1)))) then ((appX v17.2.1 ((IntKind.wrap .u8 (Int.fdiv (IntKind.wrap .u64 a.1.2.2.2.1.2.1) (2 ^ (Min.min (Int.toNat (IntKind.wrap .i64 (8 * v17.1))) 64)))) :: []) 1)).bind (fun (v18 : (List Int)) =>
            some (.inl ((IntKind.wrap .i64 (v17.1 - 1)), (v18, ()))))
          else none
         else (some v17.2).map .inr) ((IntKind.wrap .i64 (8 - 1)), v16)).bind (fun (v19 : ((List Int) × Unit)) =>
        (
         loopO (fun (v20 : (Int × ((List Int) × Unit))) =>
          bif (decide (v20.1 ≥ 0)) then bif (decide (0 ≤ (IntKind.wrap .i64 (8 * v20.1)))) then ((appX v20.2.1 ((IntKind.wrap .u8 (Int.fdiv (IntKind.wrap .u64 a.1.2.2.2.1.2.2.1) (2 ^ (Min.min (Int.toNat (IntKind.wrap .i64 (8 * v20.1))) 64)))) :: []) 1)).bind (fun (v21 : (List Int)) =>
             some (.inl ((IntKind.wrap .i64 (v20.1 - 1)), (v21, ()))))
           else none
          else (some v20.2).map .inr) ((IntKind.wrap .i64 (8 - 1)), v19)).bind (fun (v22 : ((List Int) × Unit)) =>
         (
          loopO (fun (v23 : (Int × ((List Int) × Unit))) =>
           bif (decide (v23.1 ≥ 0)) then bif (decide (0 ≤ (IntKind.wrap .i64 (8 * v23.1)))) then ((appX v23.2.1 ((IntKind.wrap .u8 (Int.fdiv (IntKind.wrap .u64 a.1.2.2.2.1.2.2.2.1) (2 ^ (Min.min (Int.toNat (IntKind.wrap .i64 (8 * v23.1))) 64)))) :: []) 1)).bind (fun (v24 : (List Int)) =>
              some (.inl ((IntKind.wrap .i64 (v23.1 - 1)), (v24, ()))))
            else none
           else (some v23.2).map .inr) ((IntKind.wrap .i64 (8 - 1)), v22)).bind (fun (v25 : ((List Int) × Unit)) =>
          (
           loopO (fun (v26 : (Int × ((List Int) × Unit))) =>
            bif (decide (v26.1 ≥ 0)) then bif (decide (0 ≤ (IntKind.wrap .i64 (8 * v26.1)))) then ((appX v26.2.1 ((IntKind.wrap .u8 (Int.fdiv (IntKind.wrap .u64 a.1.2.2.2.1.2.2.2.2.1) (2 ^ (Min.min (Int.toNat (IntKind.wrap .i64 (8 * v26.1))) 64)))) :: []) 1)).bind (fun (v27 : (List Int)) =>
               some (.inl ((IntKind.wrap .i64 (v26.1 - 1)), (v27, ()))))
             else none
            else (some v26.2).map .inr) ((IntKind.wrap .i64 (8 - 1)), v25)).bind (fun (v28 : ((List Int) × Unit)) =>
           (
            loopO (fun (v29 : (Int × ((List Int) × Unit))) =>
             bif (decide (v29.1 ≥ 0)) then bif (decide (0 ≤ (IntKind.wrap .i64 (8 * v29.1)))) then ((appX v29.2.1 ((IntKind.wrap .u8 (Int.fdiv (IntKind.wrap .u64 a.1.2.2.2.1.2.2.2.2.2.1) (2 ^ (Min.min (Int.toNat (IntKind.wrap .i64 (8 * v29.1))) 64)))) :: []) 1)).bind (fun (v30 : (List Int)) =>
                some (.inl ((IntKind.wrap .i64 (v29.1 - 1)), (v30, ()))))
              else none
             else (some v29.2).map .inr) ((IntKind.wrap .i64 (8 - 1)), v28)).bind (fun (v31 : ((List Int) × Unit)) =>
            ((g_crc_Sum v31)).bind (fun (v32 : Int) =>
             ((appX v31.1 ((IntKind.wrap .u8 v32) :: ((IntKind.wrap .u8 (Int.fdiv v32 (2 ^ 8))) :: ((IntKind.wrap .u8 (Int.fdiv v32 (2 ^ 16))) :: ((IntKind.wrap .u8 (Int.fdiv v32 (2 ^ 24))) :: [])))) 1)).bind (fun (v33 : (List Int)) =>
              some (v33, (0, ())))))))))))))))
noncomputable def tc15 : TCn := ⟨[shFrame], [(.slice 1 (.int .u8)), (.int .i64)], g_frame_Encode⟩
noncomputable def T15 := (15, tc15) :: T19
theorem t15 : Tbl Try.prog T15 := Tbl.add t19 hn 5 15 tc15 (by kernel_rfl) (fun a => by kernel_rfl)
noncomputable def g_frame_Decode (a : ((List Int) × Unit)) : Option (FrameT × (Int × Unit)) :=
 bif ((a.1.length : Int) != 72) then some ((0, (0, (0, ((0, (0, (0, (0, (0, (0, ())))))), ())))), (2, ()))
 else ((subI a.1 0 68)).bind (fun (v1 : (List Int)) =>
  ((subI v1 0 4)).bind (fun (v2 : (List Int)) =>
   (
    loopO (fun (v3 : NextT) =>
     bif (decide (v3.2.1 < (v2.length : Int))) then ((getI v2 v3.2.1)).bind (fun (v4 : Int) =>
       some (.inl ((Go.bits Go.BinOp.or Go.IntKind.u64 (IntKind.wrap .u64 (v3.1 * (2 ^ 8))) (IntKind.wrap .u64 v4)), ((IntKind.wrap .i64 (v3.2.1 + 1)), ()))))
     else (some (v3.1, ())).map .inr) (0, (0, ()))).bind (fun (v5 : (Int × Unit)) =>
    ((subI v1 4 (v1.length : Int))).bind (fun (v6 : (List Int)) =>
     ((subI a.1 0 68)).bind (fun (v7 : (List Int)) =>
      ((g_crc_Sum (v7, ()))).bind (fun (v8 : Int) =>
       ((subI a.1 68 (a.1.length : Int))).bind (fun (v9 : (List Int)) =>
        (
         loopO (fun (v10 : (Bool × (Int × Unit))) =>
          bif (decide (v10.2.1 < (v9.length : Int))) then ((getI v9 v10.2.1)).bind (fun (v11 : Int) =>
            (
             bif v10.1 then bif (decide (0 ≤ (IntKind.wrap .i64 (8 * v10.2.1)))) then some (v11 == (IntKind.wrap .u8 (Int.fdiv v8 (2 ^ (Min.min (Int.toNat (IntKind.wrap .i64 (8 * v10.2.1))) 32)))))
              else none
             else some false).bind (fun (v12 : Bool) =>
             some (.inl (v12, ((IntKind.wrap .i64 (v10.2.1 + 1)), ())))))
          else (some (v10.1, ())).map .inr) (true, (0, ()))).bind (fun (v13 : (Bool × Unit)) =>
         bif (v5.1 != 72) then some ((0, (0, (0, ((0, (0, (0, (0, (0, (0, ())))))), ())))), (2, ()))
         else bif (!v13.1) then some ((0, (0, (0, ((0, (0, (0, (0, (0, (0, ())))))), ())))), (10, ()))
         else ((subI v6 0 4)).bind (fun (v14 : (List Int)) =>
          (
           loopO (fun (v15 : NextT) =>
            bif (decide (v15.2.1 < (v14.length : Int))) then ((getI v14 v15.2.1)).bind (fun (v16 : Int) =>
              some (.inl ((Go.bits Go.BinOp.or Go.IntKind.u64 (IntKind.wrap .u64 (v15.1 * (2 ^ 8))) (IntKind.wrap .u64 v16)), ((IntKind.wrap .i64 (v15.2.1 + 1)), ()))))
            else (some (v15.1, ())).map .inr) (0, (0, ()))).bind (fun (v17 : (Int × Unit)) =>
           ((subI v6 4 (v6.length : Int))).bind (fun (v18 : (List Int)) =>
            ((subI v18 0 8)).bind (fun (v19 : (List Int)) =>
             (
              loopO (fun (v20 : NextT) =>
               bif (decide (v20.2.1 < (v19.length : Int))) then ((getI v19 v20.2.1)).bind (fun (v21 : Int) =>
                 some (.inl ((Go.bits Go.BinOp.or Go.IntKind.u64 (IntKind.wrap .u64 (v20.1 * (2 ^ 8))) (IntKind.wrap .u64 v21)), ((IntKind.wrap .i64 (v20.2.1 + 1)), ()))))
               else (some (v20.1, ())).map .inr) (0, (0, ()))).bind (fun (v22 : (Int × Unit)) =>
              ((subI v18 8 (v18.length : Int))).bind (fun (v23 : (List Int)) =>
               ((subI v23 0 4)).bind (fun (v24 : (List Int)) =>
                (
                 loopO (fun (v25 : NextT) =>
                  bif (decide (v25.2.1 < (v24.length : Int))) then ((getI v24 v25.2.1)).bind (fun (v26 : Int) =>
                    some (.inl ((Go.bits Go.BinOp.or Go.IntKind.u64 (IntKind.wrap .u64 (v25.1 * (2 ^ 8))) (IntKind.wrap .u64 v26)), ((IntKind.wrap .i64 (v25.2.1 + 1)), ()))))
                  else (some (v25.1, ())).map .inr) (0, (0, ()))).bind (fun (v27 : (Int × Unit)) =>
                 ((subI v23 4 (v23.length : Int))).bind (fun (v28 : (List Int)) =>
                  ((subI v28 0 8)).bind (fun (v29 : (List Int)) =>
                   (
                    loopO (fun (v30 : NextT) =>
                     bif (decide (v30.2.1 < (v29.length : Int))) then ((getI v29 v30.2.1)).bind (fun (v31 : Int) =>
                       some (.inl ((Go.bits Go.BinOp.or Go.IntKind.u64 (IntKind.wrap .u64 (v30.1 * (2 ^ 8))) (IntKind.wrap .u64 v31)), ((IntKind.wrap .i64 (v30.2.1 + 1)), ()))))
                     else (some (v30.1, ())).map .inr) (0, (0, ()))).bind (fun (v32 : (Int × Unit)) =>
                    ((subI v28 8 (v28.length : Int))).bind (fun (v33 : (List Int)) =>
                     ((subI v33 0 8)).bind (fun (v34 : (List Int)) =>
                      (
                       loopO (fun (v35 : NextT) =>
                        bif (decide (v35.2.1 < (v34.length : Int))) then ((getI v34 v35.2.1)).bind (fun (v36 : Int) =>
                          some (.inl ((Go.bits Go.BinOp.or Go.IntKind.u64 (IntKind.wrap .u64 (v35.1 * (2 ^ 8))) (IntKind.wrap .u64 v36)), ((IntKind.wrap .i64 (v35.2.1 + 1)), ()))))
                        else (some (v35.1, ())).map .inr) (0, (0, ()))).bind (fun (v37 : (Int × Unit)) =>
                       ((subI v33 8 (v33.length : Int))).bind (fun (v38 : (List Int)) =>
                        ((subI v38 0 8)).bind (fun (v39 : (List Int)) =>
                         (
                          loopO (fun (v40 : NextT) =>
                           bif (decide (v40.2.1 < (v39.length : Int))) then ((getI v39 v40.2.1)).bind (fun (v41 : Int) =>
                             some (.inl ((Go.bits Go.BinOp.or Go.IntKind.u64 (IntKind.wrap .u64 (v40.1 * (2 ^ 8))) (IntKind.wrap .u64 v41)), ((IntKind.wrap .i64 (v40.2.1 + 1)), ()))))
                           else (some (v40.1, ())).map .inr) (0, (0, ()))).bind (fun (v42 : (Int × Unit)) =>
                          ((subI v38 8 (v38.length : Int))).bind (fun (v43 : (List Int)) =>
                           ((subI v43 0 8)).bind (fun (v44 : (List Int)) =>
                            (
                             loopO (fun (v45 : NextT) =>
                              bif (decide (v45.2.1 < (v44.length : Int))) then ((getI v44 v45.2.1)).bind (fun (v46 : Int) =>
                                some (.inl ((Go.bits Go.BinOp.or Go.IntKind.u64 (IntKind.wrap .u64 (v45.1 * (2 ^ 8))) (IntKind.wrap .u64 v46)), ((IntKind.wrap .i64 (v45.2.1 + 1)), ()))))
                              else (some (v45.1, ())).map .inr) (0, (0, ()))).bind (fun (v47 : (Int × Unit)) =>
                             ((subI v43 8 (v43.length : Int))).bind (fun (v48 : (List Int)) =>
                              ((subI v48 0 8)).bind (fun (v49 : (List Int)) =>
                               (
                                loopO (fun (v50 : NextT) =>
                                 bif (decide (v50.2.1 < (v49.length : Int))) then ((getI v49 v50.2.1)).bind (fun (v51 : Int) =>
                                   some (.inl ((Go.bits Go.BinOp.or Go.IntKind.u64 (IntKind.wrap .u64 (v50.1 * (2 ^ 8))) (IntKind.wrap .u64 v51)), ((IntKind.wrap .i64 (v50.2.1 + 1)), ()))))
                                 else (some (v50.1, ())).map .inr) (0, (0, ()))).bind (fun (v52 : (Int × Unit)) =>
                                ((subI v48 8 (v48.length : Int))).bind (fun (v53 : (List Int)) =>
                                 ((subI v53 0 8)).bind (fun (v54 : (List Int)) =>
                                  (
                                   loopO (fun (v55 : NextT) =>
                                    bif (decide (v55.2.1 < (v54.length : Int))) then ((getI v54 v55.2.1)).bind (fun (v56 : Int) =>
                                      some (.inl ((Go.bits Go.BinOp.or Go.IntKind.u64 (IntKind.wrap .u64 (v55.1 * (2 ^ 8))) (IntKind.wrap .u64 v56)), ((IntKind.wrap .i64 (v55.2.1 + 1)), ()))))
                                    else (some (v55.1, ())).map .inr) (0, (0, ()))).bind (fun (v57 : (Int × Unit)) =>
                                   ((subI v53 8 (v53.length : Int))).bind (fun (v58 : (List Int)) =>
                                    ((g_frame_Right (((IntKind.wrap .i64 v17.1), ((IntKind.wrap .i64 v22.1), ((IntKind.wrap .i64 v27.1), (((IntKind.wrap .i64 v32.1), ((IntKind.wrap .i64 v37.1), ((IntKind.wrap .i64 v42.1), ((IntKind.wrap .i64 v47.1), ((IntKind.wrap .i64 v52.1), ((IntKind.wrap .i64 v57.1), ())))))), ())))), ()))).bind (fun (v59 : Bool) =>
                                     bif (!v59) then some ((0, (0, (0, ((0, (0, (0, (0, (0, (0, ())))))), ())))), (2, ()))
                                     else some (((IntKind.wrap .i64 v17.1), ((IntKind.wrap .i64 v22.1), ((IntKind.wrap .i64 v27.1), (((IntKind.wrap .i64 v32.1), ((IntKind.wrap .i64 v37.1), ((IntKind.wrap .i64 v42.1), ((IntKind.wrap .i64 v47.1), ((IntKind.wrap .i64 v52.1), ((IntKind.wrap .i64 v57.1), ())))))), ())))), (0, ()))))))))))))))))))))))))))))))))))))))
noncomputable def tc18 : TCn := ⟨[(.slice 1 (.int .u8))], [shFrame, (.int .i64)], g_frame_Decode⟩
noncomputable def T18 := (18, tc18) :: T15
theorem t18 : Tbl Try.prog T18 := Tbl.add t15 hn 5 18 tc18 (by kernel_rfl) (fun a => by kernel_rfl)
noncomputable def g_law04_awake (a : Unit) : Option Bool :=
 ((g_frame_Encode ((1, (2, (4, (((-1), (0, (3, (0, (0, (0, ())))))), ())))), ()))).bind (fun (v1 : ((List Int) × (Int × Unit))) =>
  ((g_frame_Decode (v1.1, ()))).bind (fun (v2 : (FrameT × (Int × Unit))) =>
   ((g_frame_Encode ((1, (2, (0, ((0, (0, (0, (0, (0, (0, ())))))), ())))), ()))).bind (fun (v3 : ((List Int) × (Int × Unit))) =>
    (
     bif (((((v1.2.1 == 0) && ((v1.1.length : Int) == 72)) && (v2.2.1 == 0)) && ((v2.1.1 == 1) && ((v2.1.2.1 == 2) && ((v2.1.2.2.1 == 4) && ((v2.1.2.2.2.1.1 == (-1)) && ((v2.1.2.2.2.1.2.1 == 0) && ((v2.1.2.2.2.1.2.2.1 == 3) && ((v2.1.2.2.2.1.2.2.2.1 == 0) && ((v2.1.2.2.2.1.2.2.2.2.1 == 0) && ((v2.1.2.2.2.1.2.2.2.2.2.1 == 0) && true)))))))))) && (v3.2.1 == 1)) then ((g_frame_Right ((1, (2, (4, (((-1), (0, (3, (0, (0, (0, ())))))), ())))), ()))).bind (fun (v4 : Bool) =>
       some v4)
     else some false).bind (fun (v5 : Bool) =>
     some v5))))
noncomputable def tc13 : TCn := ⟨[], [.bool], g_law04_awake⟩
noncomputable def T13 := (13, tc13) :: T18
theorem t13 : Tbl Try.prog T13 := Tbl.add t18 hn 5 13 tc13 (by kernel_rfl) (fun a => by kernel_rfl)
noncomputable def g_law04_FrameRight (a : (FrameT × ((List Int) × Unit))) : Option Bool :=
 ((g_law04_awake ())).bind (fun (v1 : Bool) =>
  bif (!v1) then some false
  else bif (decide ((a.2.1.length : Int) > 200)) then some true
  else ((g_ref04_Right (a.1, ()))).bind (fun (v2 : Bool) =>
   ((g_frame_Encode (a.1, ()))).bind (fun (v3 : ((List Int) × (Int × Unit))) =>
    ((g_frame_Right (a.1, ()))).bind (fun (v4 : Bool) =>
     (
      bif (v4 != v2) then some true
      else (
       bif v2 then (
         bif (v3.2.1 != 0) then some true
         else ((g_ref04_Encode (a.1, ()))).bind (fun (v5 : (List Int)) =>
          some (!(decide ((mkS v3.1) = (mkS v5)))))).bind (fun (v6 : Bool) =>
         some v6)
       else some false).bind (fun (v7 : Bool) =>
       some v7)).bind (fun (v8 : Bool) =>
      bif (v8 || ((!v2) && ((v3.2.1 != 1) || ((v3.1.length : Int) != 0)))) then some false
      else ((g_frame_Decode a.2)).bind (fun (v9 : (FrameT × (Int × Unit))) =>
       ((g_ref04_Decode a.2)).bind (fun (v10 : (FrameT × (Int × Unit))) =>
        some (((v9.1.1 == v10.1.1) && ((v9.1.2.1 == v10.1.2.1) && ((v9.1.2.2.1 == v10.1.2.2.1) && ((v9.1.2.2.2.1.1 == v10.1.2.2.2.1.1) && ((v9.1.2.2.2.1.2.1 == v10.1.2.2.2.1.2.1) && ((v9.1.2.2.2.1.2.2.1 == v10.1.2.2.2.1.2.2.1) && ((v9.1.2.2.2.1.2.2.2.1 == v10.1.2.2.2.1.2.2.2.1) && ((v9.1.2.2.2.1.2.2.2.2.1 == v10.1.2.2.2.1.2.2.2.2.1) && ((v9.1.2.2.2.1.2.2.2.2.2.1 == v10.1.2.2.2.1.2.2.2.2.2.1) && true))))))))) && (v9.2.1 == v10.2.1)))))))))
noncomputable def tc3 : TCn := ⟨[shFrame, (.slice 1 (.int .u8))], [.bool], g_law04_FrameRight⟩
noncomputable def T3 := (3, tc3) :: T13
theorem t3 : Tbl Try.prog T3 := Tbl.add t13 hn 5 3 tc3 (by kernel_rfl) (fun a => by kernel_rfl)
end Go.AI
