/- What Go functions come to, as functions of data with a kind; printed by a program, with the proof that the given functions answer just that. -/
import Derived.Test.YtbcffodjbbcdhaaLF
import Derived.Test.YtbcffodjbbcdhaaProg
namespace Go.AI
open Go.Proofs
set_option linter.unusedVariables false
abbrev ErrorAddressStringT := (ByteArray × (Int × Unit))
abbrev shErrorAddressString : Sh := (.cons .str (.cons (.int .u64) .nil))
abbrev SlotT := (Int × (Int × Unit))
abbrev shSlot : Sh := (.cons (.int .i64) (.cons (.int .i64) .nil))
abbrev FileT := (ByteArray × ((List Int) × (Int × Unit)))
abbrev shFile : Sh := (.cons .str (.cons (.slice 1 (.int .u8)) (.cons (.int .i64) .nil)))
abbrev DiskT := ((List FileT) × (Int × (Int × (Bool × Unit))))
abbrev shDisk : Sh := (.cons (.slice 3 shFile) (.cons (.int .i64) (.cons (.int .i64) (.cons .bool .nil))))
def hnL : List (Nat × List (Nat × Hint)) := [(50, [(0, .j []), (1, .j [⟨.t 6, [.v (.int .i64)]⟩])]),
 (22, [(0, .j [⟨.t 3, [.v (.int .i64)]⟩]), (1, .j [⟨.t 3, [.v (.int .i64)]⟩, ⟨.t 9, [.v (.int .i64)]⟩])]),
 (13, [(1, .j []), (2, .j [⟨.t 3, [.v (.int .i64)]⟩, ⟨.t 30, [.v (.int .i64)]⟩])]),
 (56, [(0, .j [⟨.t 3, [.v (.int .i64)]⟩]), (1, .j [⟨.t 3, [.v (.int .i64)]⟩, ⟨.t 11, [.v (.int .i64)]⟩]), (4, .j []), (5, .j [⟨.t 6, [.r (.int .u8)]⟩]), (6, .j [⟨.t 6, [.r (.int .u8)]⟩, ⟨.t 27, [.v (.int .i64)]⟩])]),
 (17, [(2, .j [⟨.b 3 [], [.r shFile, .v (.int .i64), .v (.int .i64), .v .bool]⟩])]),
 (20, [(2, .j [⟨.t 22, [.v .bool]⟩])]),
 (14, [(1, .j [⟨.b 3 [], [.r shFile, .v (.int .i64), .v (.int .i64), .v .bool]⟩, ⟨.a 24 0, []⟩]), (2, .j [⟨.t 26, [.v (.int .i64)]⟩, ⟨.b 3 [], [.r shFile, .v (.int .i64), .v (.int .i64), .v .bool]⟩, ⟨.a 24 1, []⟩]), (5, .j [⟨.t 10, [.v (.int .i64)]⟩])]),
 (61, [(0, .j []), (1, .j [⟨.t 3, [.v (.int .i64)]⟩])]),
 (23, [(0, .j [⟨.t 3, [.v (.int .i64)]⟩]), (1, .j [⟨.t 3, [.v (.int .i64)]⟩, ⟨.t 4, [.v (.int .i64)]⟩])]),
 (21, [(1, .j [⟨.t 3, [.v (.int .i64)]⟩]), (2, .j [⟨.t 3, [.v (.int .i64)]⟩, ⟨.t 4, [.v (.int .i64)]⟩])]),
 (63, [(0, .j []), (1, .j [⟨.t 5, [.v (.int .i64)]⟩])]),
 (64, [(0, .j [⟨.t 5, [.r shFile]⟩, ⟨.t 6, [.v .bool]⟩]), (1, .j [⟨.t 5, [.r shFile]⟩, ⟨.t 6, [.v .bool]⟩, ⟨.t 7, [.v (.int .i64)]⟩]), (4, .j [⟨.t 5, [.r shFile]⟩, ⟨.t 6, [.v .bool]⟩]), (5, .j [⟨.t 5, [.r shFile]⟩]), (6, .j [⟨.t 5, [.r shFile]⟩])]),
 (65, [(1, .j [⟨.b 1 [], [.v (.slice 3 shFile), .v (.int .i64), .v (.int .i64), .v .bool]⟩])]),
 (66, [(0, .j [⟨.t 5, [.r shFile]⟩]), (1, .j [⟨.t 5, [.r shFile]⟩, ⟨.t 6, [.v (.int .i64)]⟩]), (4, .j [⟨.t 5, [.r shFile]⟩])]),
 (26, [(1, .j [⟨.b 9 [], [.v .str, .v (.slice 1 (.int .u8)), .v (.int .i64)]⟩])]),
 (32, [(4, .j [⟨.b 10 [], [.v .str, .v (.slice 1 (.int .u8)), .v (.int .i64)]⟩])]),
 (34, [(1, .j [⟨.t 8, [.r shFile]⟩]), (2, .j [⟨.t 8, [.r shFile]⟩, ⟨.t 9, [.v (.int .i64)]⟩]), (5, .j [⟨.t 12, [.v (.int .i64)]⟩]), (6, .j [⟨.t 12, [.v (.int .i64)]⟩]), (7, .j [⟨.t 12, [.v (.int .i64)]⟩])]),
 (16, [(1, .j []), (2, .j [⟨.t 5, [.v (.int .i64)]⟩])]),
 (12, [(1, .j [⟨.t 3, [.v (.int .i64)]⟩]), (2, .j [⟨.t 3, [.v (.int .i64)]⟩, ⟨.t 4, [.v (.int .i64)]⟩])]),
 (90, [(0, .j [⟨.t 0, [.v (.int .u32)]⟩]), (1, .j [⟨.t 0, [.v (.int .u32)]⟩, ⟨.t 4, [.v (.int .i64)]⟩]), (4, .j [⟨.t 0, [.v (.int .u32)]⟩])]),
 (87, [(0, .j [⟨.t 5, [.v (.int .u32)]⟩]), (1, .j [⟨.t 5, [.v (.int .u32)]⟩, ⟨.t 12, [.v (.int .i64)]⟩])]),
 (83, [(0, .j [⟨.t 5, [.v (.int .u32)]⟩]), (1, .j [⟨.t 5, [.v (.int .u32)]⟩, ⟨.t 6, [.v (.int .i64)]⟩]), (4, .j [⟨.t 5, [.v (.int .u32)]⟩]), (5, .j [⟨.t 5, [.v (.int .u32)]⟩, ⟨.t 7, [.v (.int .i64)]⟩]), (8, .j [⟨.t 5, [.v (.int .u32)]⟩])]),
 (67, [(1, .u 9), (5, .u 5)]),
 (41, [(0, .j [⟨.t 3, [.r (.int .u8)]⟩]), (1, .j [⟨.t 4, [.v (.int .i64)]⟩, ⟨.t 5, [.v (.int .i64)]⟩, ⟨.t 6, [.v (.int .i64)]⟩, ⟨.t 3, [.r (.int .u8)]⟩]), (4, .j [⟨.t 3, [.r (.int .u8)]⟩]), (5, .j [⟨.t 3, [.r (.int .u8)]⟩, ⟨.t 7, [.v (.int .u32)]⟩, ⟨.t 8, [.v (.int .i64)]⟩])]),
 (42, [(1, .j [⟨.b 4 [], [.v (.int .i64), .v (.int .i64)]⟩]), (2, .j [⟨.t 10, [.v (.int .i64)]⟩, ⟨.b 4 [], [.v (.int .i64), .v (.int .i64)]⟩])]),
 (43, [(1, .j [⟨.b 2 [], [.v (.int .i64), .v (.int .i64)]⟩]), (2, .j [⟨.t 4, [.v (.int .u32)]⟩, ⟨.t 5, [.v (.int .i64)]⟩, ⟨.b 2 [], [.v (.int .i64), .v (.int .i64)]⟩]), (6, .j [⟨.t 6, [.v (.int .u64)]⟩, ⟨.t 7, [.v (.int .u64)]⟩]), (7, .j [⟨.t 6, [.v (.int .u64)]⟩, ⟨.t 7, [.v (.int .u64)]⟩, ⟨.t 8, [.v (.int .i64)]⟩])]),
 (46, [(3, .j [⟨.b 4 [], [.v (.int .i64), .v (.int .i64)]⟩]), (4, .j [⟨.t 19, [.v (.int .i64)]⟩, ⟨.b 4 [], [.v (.int .i64), .v (.int .i64)]⟩]), (7, .j [⟨.b 4 [], [.v (.int .i64), .v (.int .i64)]⟩])]),
 (47, [(2, .j [⟨.b 4 [], [.v (.int .i64), .v (.int .i64)]⟩]), (3, .j [⟨.t 5, [.v (.int .i64)]⟩, ⟨.b 4 [], [.v (.int .i64), .v (.int .i64)]⟩]), (6, .j [⟨.b 4 [], [.v (.int .i64), .v (.int .i64)]⟩])]),
 (48, [(2, .j [⟨.t 19, [.v .bool]⟩])]),
 (49, [(3, .j [⟨.b 2 [], [.v (.slice 3 shFile), .v (.int .i64), .v (.int .i64), .v .bool]⟩, ⟨.b 4 [], [.v (.slice 3 shFile), .v (.int .i64), .v (.int .i64), .v .bool]⟩])]),
 (9, [(6, .j []), (7, .j [⟨.t 20, [.v (.int .i64)]⟩])]),
 (10, [(2, .j [⟨.b 5 [], [.v (.slice 3 shFile), .v (.int .i64), .v (.int .i64), .v .bool]⟩, ⟨.b 6 [], [.v (.int .i64), .v (.int .i64)]⟩]), (3, .j [⟨.t 7, [.v (.int .i64)]⟩, ⟨.b 5 [], [.v (.slice 3 shFile), .v (.int .i64), .v (.int .i64), .v .bool]⟩, ⟨.b 6 [], [.v (.int .i64), .v (.int .i64)]⟩])]),
 (69, [(1, .u 4)]),
 (76, [(0, .j [⟨.t 9, [.v (.int .i64)]⟩]), (1, .j [⟨.t 9, [.v (.int .i64)]⟩, ⟨.t 10, [.v (.int .i64)]⟩]), (4, .j [⟨.t 9, [.v (.int .i64)]⟩, ⟨.t 10, [.v (.int .i64)]⟩])]),
 (84, [(0, .j []), (1, .j [⟨.t 8, [.v (.int .i64)]⟩])])]
def hnOf : List (Nat × List (Nat × Hint)) → Nat → List (Nat × Hint)
  | [], _ => []
  | (k, x) :: l, f => match Nat.beq k f with
    | true => x
    | false => hnOf l f
def hn : FuncId → List (Nat × Hint) := fun f => hnOf hnL f
def lbL : LbT := [(51, (.clone 3 48, shFile)), (55, (.ins 3 48, shFile)), (60, (.del 3, shFile)), (81, (.grow 1 1, (.int .u8)))]
theorem tLib : Tbl Try.prog lbL [] := Tbl.libs fun f k sh h => by
  unfold lbL at h
  try simp only [findL] at h
  split at h
  · rename_i e
    cases h
    rw [← Nat.eq_of_beq_eq_true e]
    exact cloneOk (t := 22) (tb := 4) (e := 33) (by unfold fnIs; kernel_rfl) (by kernel_rfl) (by kernel_rfl)
  try simp only [findL] at h
  split at h
  · rename_i e
    cases h
    rw [← Nat.eq_of_beq_eq_true e]
    exact insOk (t := 22) (ti := 3) (tb := 4) (e := 33) (fo := 79) (fr := 80) (by unfold fnIs; kernel_rfl) (by unfold overIs; kernel_rfl) (by kernel_rfl) (by kernel_rfl) (by kernel_rfl) (by kernel_rfl)
  try simp only [findL] at h
  split at h
  · rename_i e
    cases h
    rw [← Nat.eq_of_beq_eq_true e]
    exact delOk (t := 22) (ti := 3) (tb := 4) (e := 33) (bytes := 48) (by unfold fnIs; kernel_rfl) (by kernel_rfl) (by kernel_rfl) (by kernel_rfl) (by kernel_rfl)
  try simp only [findL] at h
  split at h
  · rename_i e
    cases h
    rw [← Nat.eq_of_beq_eq_true e]
    exact growOk (t := 31) (ti := 3) (tb := 4) (tp := 20) (ts := 9) (e := 5) (by unfold fnIs; kernel_rfl) (by kernel_rfl) (by kernel_rfl) (by kernel_rfl)
  cases h
noncomputable def g_cmp (a : ByteArray × (ByteArray × Unit)) : Option Int := some (cmpX a.1 a.2.1)
noncomputable def tc85 : TCn := ⟨[.str, .str], [.int .i64], g_cmp⟩
noncomputable def T85 := (85, tc85) :: ([] : List (FuncId × TCn))
theorem t85 : Tbl Try.prog lbL T85 := Tbl.hand tLib 85 tc85 (cmpOk (ts := 9) (ti := 3) (fx := 88) (by unfold fnIs; kernel_rfl) (by unfold cmpIs; kernel_rfl)) rfl
noncomputable def g_clone59 (a : ((List Int) × Unit)) : Option (List Int) := appX [] a.1 1
noncomputable def tc59 : TCn := ⟨[.slice 1 (.int .u8)], [.slice 1 (.int .u8)], g_clone59⟩
noncomputable def T59 := (59, tc59) :: T85
theorem t59 : Tbl Try.prog lbL T59 := Tbl.hand t85 59 tc59 (cloneVal (sh := (.int .u8)) (cloneOk (t := 31) (tb := 4) (e := 5) (s := 1) (bytes := 1) (by unfold fnIs; kernel_rfl) (by kernel_rfl) (by kernel_rfl))) (by kernel_rfl)
noncomputable def g_strings_Compare (a : (ByteArray × (ByteArray × Unit))) : Option Int :=
 ((g_cmp a)).bind (fun (v1 : Int) =>
  some v1)
noncomputable def tc78 : TCn := ⟨[.str, .str], [(.int .i64)], g_strings_Compare⟩
noncomputable def T78 := (78, tc78) :: T59
theorem t78 : Tbl Try.prog lbL T78 := Tbl.add t59 hn 6 78 tc78 (by kernel_rfl) (fun a => by kernel_rfl)
noncomputable def g_disk_sign (a : (Int × Unit)) : Option Bool :=
 some ((((decide (a.1 ≥ 97)) && (decide (a.1 ≤ 122))) || ((decide (a.1 ≥ 48)) && (decide (a.1 ≤ 57)))) || (a.1 == 46))
noncomputable def tc73 : TCn := ⟨[(.int .u8)], [.bool], g_disk_sign⟩
noncomputable def T73 := (73, tc73) :: T78
theorem t73 : Tbl Try.prog lbL T73 := Tbl.add t78 hn 6 73 tc73 (by kernel_rfl) (fun a => by kernel_rfl)
noncomputable def g_disk_named (a : (ByteArray × Unit)) : Option Bool :=
 (
  loopO (fun (v1 : (Int × Unit)) =>
   bif (decide (v1.1 < ((ByteArray.size a.1) : Int))) then ((idxB a.1 v1.1)).bind (fun (v2 : Int) =>
     ((g_disk_sign (v2, ()))).bind (fun (v3 : Bool) =>
      bif (!v3) then ((some false).map .inr).map .inr
      else some (.inl ((IntKind.wrap .i64 (v1.1 + 1)), ()))))
   else (some (.inl ())).map .inr) (0, ())).bind (eX (fun (v4 : Unit) =>
  some ((decide (((ByteArray.size a.1) : Int) ≥ 1)) && (decide (((ByteArray.size a.1) : Int) ≤ 16)))))
noncomputable def tc50 : TCn := ⟨[.str], [.bool], g_disk_named⟩
noncomputable def T50 := (50, tc50) :: T73
theorem t50 : Tbl Try.prog lbL T50 := Tbl.add t73 hn 6 50 tc50 (by kernel_rfl) (fun a => by kernel_rfl)
noncomputable def g_disk_Used (a : (DiskT × Unit)) : Option Int :=
 (
  loopO (fun (v1 : SlotT) =>
   bif (decide (v1.2.1 < (a.1.1.length : Int))) then ((getI a.1.1 v1.2.1)).bind (fun (v2 : FileT) =>
     some (.inl ((IntKind.wrap .i64 (v1.1 + (v2.2.1.length : Int))), ((IntKind.wrap .i64 (v1.2.1 + 1)), ()))))
   else (some (v1.1, ())).map .inr) (0, (0, ()))).bind (fun (v3 : (Int × Unit)) =>
  some v3.1)
noncomputable def tc22 : TCn := ⟨[shDisk], [(.int .i64)], g_disk_Used⟩
noncomputable def T22 := (22, tc22) :: T50
theorem t22 : Tbl Try.prog lbL T22 := Tbl.add t50 hn 6 22 tc22 (by kernel_rfl) (fun a => by kernel_rfl)
noncomputable def g_disk_Right (a : (DiskT × Unit)) : Option Bool :=
 bif ((((decide (a.1.2.1 < 0)) || (decide (a.1.2.1 > 65536))) || (decide (a.1.2.2.1 < (-1)))) || (decide ((a.1.1.length : Int) > 64))) then some false
 else (
  loopO (fun (v1 : SlotT) =>
   bif (decide (v1.2.1 < (a.1.1.length : Int))) then ((getI a.1.1 v1.2.1)).bind (fun (v2 : FileT) =>
     ((g_disk_named (v2.1, ()))).bind (fun (v3 : Bool) =>
      (
       bif (!v3) then some true
       else (
        bif (decide (v1.2.1 > 0)) then ((getI a.1.1 (IntKind.wrap .i64 (v1.2.1 - 1)))).bind (fun (v4 : FileT) =>
          some (!(Go.Op.bytesLess (ByteArray.toList v4.1) (ByteArray.toList v2.1))))
        else some false).bind (fun (v5 : Bool) =>
        some v5)).bind (fun (v6 : Bool) =>
       bif (((v6 || (decide (v2.2.2.1 < 0))) || (decide (v2.2.2.1 > (v2.2.1.length : Int)))) || (decide ((v2.2.1.length : Int) > v1.1))) then ((some false).map .inr).map .inr
       else some (.inl ((IntKind.wrap .i64 (v1.1 - (v2.2.1.length : Int))), ((IntKind.wrap .i64 (v1.2.1 + 1)), ()))))))
   else (some (.inl ())).map .inr) (a.1.2.1, (0, ()))).bind (eX (fun (v7 : Unit) =>
  some true))
noncomputable def tc13 : TCn := ⟨[shDisk], [.bool], g_disk_Right⟩
noncomputable def T13 := (13, tc13) :: T22
theorem t13 : Tbl Try.prog lbL T13 := Tbl.add t22 hn 6 13 tc13 (by kernel_rfl) (fun a => by kernel_rfl)
noncomputable def g_disk_ready (a : (DiskT × ((List ByteArray) × Unit))) : Option Int :=
 ((g_disk_Right (a.1, ()))).bind (fun (v1 : Bool) =>
  bif (!v1) then some 1
  else bif a.1.2.2.2.1 then some 9
  else (
   loopO (fun (v2 : (Int × Unit)) =>
    bif (decide (v2.1 < (a.2.1.length : Int))) then ((getI a.2.1 v2.1)).bind (fun (v3 : ByteArray) =>
      ((g_disk_named (v3, ()))).bind (fun (v4 : Bool) =>
       bif (!v4) then ((bif (decide (v2.1 ≥ 0)) then some 1
        else some 0).map .inr).map .inr
       else some (.inl ((IntKind.wrap .i64 (v2.1 + 1)), ()))))
    else (some (.inl ())).map .inr) (0, ())).bind (eX (fun (v5 : Unit) =>
   some 0)))
noncomputable def tc53 : TCn := ⟨[shDisk, (.slice 1 .str)], [(.int .i64)], g_disk_ready⟩
noncomputable def T53 := (53, tc53) :: T13
theorem t53 : Tbl Try.prog lbL T53 := Tbl.add t13 hn 6 53 tc53 (by kernel_rfl) (fun a => by kernel_rfl)
noncomputable def g_disk_find (a : (DiskT × (ByteArray × Unit))) : Option (Int × (Bool × Unit)) :=
 (
  loopO (fun (v1 : SlotT) =>
   bif (decide (v1.1 < v1.2.1)) then ((getI a.1.1 (IntKind.wrap .i64 (Int.fdiv (IntKind.wrap .u64 (IntKind.wrap .i64 (v1.1 + v1.2.1))) (2 ^ 1))))).bind (fun (v2 : FileT) =>
     ((g_strings_Compare (v2.1, a.2))).bind (fun (v3 : Int) =>
      (
       bif (decide (v3 < 0)) then some ((IntKind.wrap .i64 ((IntKind.wrap .i64 (Int.fdiv (IntKind.wrap .u64 (IntKind.wrap .i64 (v1.1 + v1.2.1))) (2 ^ 1))) + 1)), v1.2)
       else some (v1.1, ((IntKind.wrap .i64 (Int.fdiv (IntKind.wrap .u64 (IntKind.wrap .i64 (v1.1 + v1.2.1))) (2 ^ 1))), ()))).bind (fun (v4 : SlotT) =>
       some (.inl v4))))
   else (some (v1.1, ())).map .inr) (0, ((a.1.1.length : Int), ()))).bind (fun (v5 : (Int × Unit)) =>
  bif (decide (v5.1 < (a.1.1.length : Int))) then ((getI a.1.1 v5.1)).bind (fun (v6 : FileT) =>
    ((g_strings_Compare (v6.1, a.2))).bind (fun (v7 : Int) =>
     some (v5.1, ((v7 == 0), ()))))
  else some (v5.1, (false, ())))
noncomputable def tc54 : TCn := ⟨[shDisk, .str], [(.int .i64), .bool], g_disk_find⟩
noncomputable def T54 := (54, tc54) :: T53
theorem t54 : Tbl Try.prog lbL T54 := Tbl.add t53 hn 6 54 tc54 (by kernel_rfl) (fun a => by kernel_rfl)
noncomputable def g_disk_left (a : (FileT × (Int × Unit))) : Option FileT :=
 ((subI a.1.2.1 0 (IntKind.wrap .i64 (a.1.2.2.1 + (if (false = true) then (if ((IntKind.wrap .i64 ((a.1.2.1.length : Int) - a.1.2.2.1)) > (if (true = true) then (if (0 > a.2.1) then 0 else a.2.1) else (if (0 < a.2.1) then 0 else a.2.1))) then (IntKind.wrap .i64 ((a.1.2.1.length : Int) - a.1.2.2.1)) else (if (true = true) then (if (0 > a.2.1) then 0 else a.2.1) else (if (0 < a.2.1) then 0 else a.2.1))) else (if ((IntKind.wrap .i64 ((a.1.2.1.length : Int) - a.1.2.2.1)) < (if (true = true) then (if (0 > a.2.1) then 0 else a.2.1) else (if (0 < a.2.1) then 0 else a.2.1))) then (IntKind.wrap .i64 ((a.1.2.1.length : Int) - a.1.2.2.1)) else (if (true = true) then (if (0 > a.2.1) then 0 else a.2.1) else (if (0 < a.2.1) then 0 else a.2.1)))))))).bind (fun (v1 : (List Int)) =>
  ((g_clone59 (v1, ()))).bind (fun (v2 : (List Int)) =>
   some (a.1.1, (v2, ((IntKind.wrap .i64 (a.1.2.2.1 + (if (false = true) then (if ((IntKind.wrap .i64 ((a.1.2.1.length : Int) - a.1.2.2.1)) > (if (true = true) then (if (0 > a.2.1) then 0 else a.2.1) else (if (0 < a.2.1) then 0 else a.2.1))) then (IntKind.wrap .i64 ((a.1.2.1.length : Int) - a.1.2.2.1)) else (if (true = true) then (if (0 > a.2.1) then 0 else a.2.1) else (if (0 < a.2.1) then 0 else a.2.1))) else (if ((IntKind.wrap .i64 ((a.1.2.1.length : Int) - a.1.2.2.1)) < (if (true = true) then (if (0 > a.2.1) then 0 else a.2.1) else (if (0 < a.2.1) then 0 else a.2.1))) then (IntKind.wrap .i64 ((a.1.2.1.length : Int) - a.1.2.2.1)) else (if (true = true) then (if (0 > a.2.1) then 0 else a.2.1) else (if (0 < a.2.1) then 0 else a.2.1)))))), ())))))
noncomputable def tc52 : TCn := ⟨[shFile, (.int .i64)], [shFile], g_disk_left⟩
noncomputable def T52 := (52, tc52) :: T54
theorem t52 : Tbl Try.prog lbL T52 := Tbl.add t54 hn 6 52 tc52 (by kernel_rfl) (fun a => by kernel_rfl)
noncomputable def g_slices_Concat (a : ((List (List Int)) × Unit)) : Option (List Int) :=
 (
  loopO (fun (v1 : SlotT) =>
   bif (decide (v1.2.1 < (a.1.length : Int))) then ((getI a.1 v1.2.1)).bind (fun (v2 : (List Int)) =>
     (
      bif (decide ((IntKind.wrap .i64 (v1.1 + (v2.length : Int))) < 0)) then none
      else some ()).bind (fun (v3 : Unit) =>
      some (.inl ((IntKind.wrap .i64 (v1.1 + (v2.length : Int))), ((IntKind.wrap .i64 (v1.2.1 + 1)), ())))))
   else (some (v1.1, ())).map .inr) (0, (0, ()))).bind (fun (v4 : (Int × Unit)) =>
  bif (growX v4.1 1) then (
    loopO (fun (v5 : ((List Int) × (Int × Unit))) =>
     bif (decide (v5.2.1 < (a.1.length : Int))) then ((getI a.1 v5.2.1)).bind (fun (v6 : (List Int)) =>
       ((appX v5.1 v6 1)).bind (fun (v7 : (List Int)) =>
        some (.inl (v7, ((IntKind.wrap .i64 (v5.2.1 + 1)), ())))))
     else (some (v5.1, ())).map .inr) ([], (0, ()))).bind (fun (v8 : ((List Int) × Unit)) =>
    some v8.1)
  else none)
noncomputable def tc56 : TCn := ⟨[(.slice 1 (.slice 1 (.int .u8)))], [(.slice 1 (.int .u8))], g_slices_Concat⟩
noncomputable def T56 := (56, tc56) :: T52
theorem t56 : Tbl Try.prog lbL T56 := Tbl.add t52 hn 6 56 tc56 (by kernel_rfl) (fun a => by kernel_rfl)
noncomputable def g_disk_New (a : (Int × Unit)) : Option (DiskT × (Int × Unit)) :=
 ((g_disk_Right (([], (a.1, ((-1), (false, ())))), ()))).bind (fun (v1 : Bool) =>
  bif (!v1) then some (([], (0, (0, (false, ())))), (1, ()))
  else some (([], (a.1, ((-1), (false, ())))), (0, ())))
noncomputable def tc24 : TCn := ⟨[(.int .i64)], [shDisk, (.int .i64)], g_disk_New⟩
noncomputable def T24 := (24, tc24) :: T56
theorem t24 : Tbl Try.prog lbL T24 := Tbl.add t56 hn 6 24 tc24 (by kernel_rfl) (fun a => by kernel_rfl)
noncomputable def g_disk_Append (a : (DiskT × (ByteArray × ((List Int) × Unit)))) : Option (DiskT × (Int × Unit)) :=
 ((g_disk_ready (a.1, ((a.2.1 :: []), ())))).bind (fun (v1 : Int) =>
  bif (v1 != 0) then some (a.1, (v1, ()))
  else ((g_disk_find (a.1, (a.2.1, ())))).bind (fun (v2 : (Int × (Bool × Unit))) =>
   ((g_disk_Used (a.1, ()))).bind (fun (v3 : Int) =>
    bif ((decide ((a.2.2.1.length : Int) > (IntKind.wrap .i64 (a.1.2.1 - v3)))) || ((!v2.2.1) && ((a.1.1.length : Int) == 64))) then some (a.1, (6, ()))
    else ((appX [] a.1.1 48)).bind (fun (v4 : (List FileT)) =>
     (
      bif (!v2.2.1) then ((insX v4 v2.1 ((a.2.1, ([], (0, ()))) :: []) 48)).bind (fun (v5 : (List FileT)) =>
        some (v5, a.1.2))
      else some (v4, a.1.2)).bind (fun (v6 : DiskT) =>
      bif (inI v2.1 v6.1.length) then (v6.1[(Int.toNat v2.1)]?).bind (fun (v7 : FileT) =>
        ((g_slices_Concat ((v7.2.1 :: (a.2.2.1 :: [])), ()))).bind (fun (v8 : (List Int)) =>
         bif (inI v2.1 v6.1.length) then (v6.1[(Int.toNat v2.1)]?).bind (fun (v9 : FileT) =>
           bif (v6.2.2.1 == 0) then some (((List.set v6.1 (Int.toNat v2.1) (v9.1, (v8, v9.2.2))), (v6.2.1, (v6.2.2.1, (true, ())))), (9, ()))
           else bif (v6.2.2.1 == (-1)) then some (((List.set v6.1 (Int.toNat v2.1) (v9.1, (v8, v9.2.2))), v6.2), (0, ()))
           else some (((List.set v6.1 (Int.toNat v2.1) (v9.1, (v8, v9.2.2))), (v6.2.1, ((IntKind.wrap .i64 (v6.2.2.1 - 1)), v6.2.2.2))), (0, ())))
         else none))
      else none)))))
noncomputable def tc17 : TCn := ⟨[shDisk, .str, (.slice 1 (.int .u8))], [shDisk, (.int .i64)], g_disk_Append⟩
noncomputable def T17 := (17, tc17) :: T24
theorem t17 : Tbl Try.prog lbL T17 := Tbl.add t24 hn 6 17 tc17 (by kernel_rfl) (fun a => by kernel_rfl)
noncomputable def g_disk_Read (a : (DiskT × (ByteArray × Unit))) : Option ((List Int) × (Int × Unit)) :=
 ((appX [] (a.2.1 :: []) 16)).bind (fun (v1 : (List ByteArray)) =>
  ((g_disk_ready (a.1, (v1, ())))).bind (fun (v2 : Int) =>
   bif (v2 != 0) then bif (v2 != 0) then some ([], (v2, ()))
    else ((getI a.1.1 0)).bind (fun (v3 : FileT) =>
     ((g_clone59 (v3.2.1, ()))).bind (fun (v4 : (List Int)) =>
      some (v4, (0, ()))))
   else ((g_disk_find a)).bind (fun (v5 : (Int × (Bool × Unit))) =>
    bif (!v5.2.1) then some ([], (7, ()))
    else ((getI a.1.1 v5.1)).bind (fun (v6 : FileT) =>
     ((g_clone59 (v6.2.1, ()))).bind (fun (v7 : (List Int)) =>
      some (v7, (0, ())))))))
noncomputable def tc18 : TCn := ⟨[shDisk, .str], [(.slice 1 (.int .u8)), (.int .i64)], g_disk_Read⟩
noncomputable def T18 := (18, tc18) :: T17
theorem t18 : Tbl Try.prog lbL T18 := Tbl.add t17 hn 6 18 tc18 (by kernel_rfl) (fun a => by kernel_rfl)
noncomputable def g_disk_Sync (a : (DiskT × (ByteArray × Unit))) : Option (DiskT × (Int × Unit)) :=
 ((appX [] (a.2.1 :: []) 16)).bind (fun (v1 : (List ByteArray)) =>
  ((g_disk_ready (a.1, (v1, ())))).bind (fun (v2 : Int) =>
   bif (v2 != 0) then bif (v2 != 0) then some (a.1, (v2, ()))
    else bif (a.1.2.2.1 == 0) then some ((a.1.1, (a.1.2.1, (a.1.2.2.1, (true, ())))), (9, ()))
    else bif (a.1.2.2.1 == (-1)) then ((appX [] a.1.1 48)).bind (fun (v3 : (List FileT)) =>
      bif (inI 0 v3.length) then (v3[0]?).bind (fun (v4 : FileT) =>
        bif (inI 0 v3.length) then (v3[0]?).bind (fun (v5 : FileT) =>
          some (((List.set v3 0 (v5.1, (v5.2.1, ((v4.2.1.length : Int), ())))), a.1.2), (0, ())))
        else none)
      else none)
    else ((appX [] a.1.1 48)).bind (fun (v6 : (List FileT)) =>
     bif (inI 0 v6.length) then (v6[0]?).bind (fun (v7 : FileT) =>
       bif (inI 0 v6.length) then (v6[0]?).bind (fun (v8 : FileT) =>
         some (((List.set v6 0 (v8.1, (v8.2.1, ((v7.2.1.length : Int), ())))), (a.1.2.1, ((IntKind.wrap .i64 (a.1.2.2.1 - 1)), a.1.2.2.2))), (0, ())))
       else none)
     else none)
   else ((g_disk_find a)).bind (fun (v9 : (Int × (Bool × Unit))) =>
    bif (!v9.2.1) then some (a.1, (7, ()))
    else bif (a.1.2.2.1 == 0) then some ((a.1.1, (a.1.2.1, (a.1.2.2.1, (true, ())))), (9, ()))
    else bif (a.1.2.2.1 == (-1)) then ((appX [] a.1.1 48)).bind (fun (v10 : (List FileT)) =>
      bif (inI v9.1 v10.length) then (v10[(Int.toNat v9.1)]?).bind (fun (v11 : FileT) =>
        bif (inI v9.1 v10.length) then (v10[(Int.toNat v9.1)]?).bind (fun (v12 : FileT) =>
          some (((List.set v10 (Int.toNat v9.1) (v12.1, (v12.2.1, ((v11.2.1.length : Int), ())))), a.1.2), (0, ())))
        else none)
      else none)
    else ((appX [] a.1.1 48)).bind (fun (v13 : (List FileT)) =>
     bif (inI v9.1 v13.length) then (v13[(Int.toNat v9.1)]?).bind (fun (v14 : FileT) =>
       bif (inI v9.1 v13.length) then (v13[(Int.toNat v9.1)]?).bind (fun (v15 : FileT) =>
         some (((List.set v13 (Int.toNat v9.1) (v15.1, (v15.2.1, ((v14.2.1.length : Int), ())))), (a.1.2.1, ((IntKind.wrap .i64 (a.1.2.2.1 - 1)), a.1.2.2.2))), (0, ())))
       else none)
     else none))))
noncomputable def tc27 : TCn := ⟨[shDisk, .str], [shDisk, (.int .i64)], g_disk_Sync⟩
noncomputable def T27 := (27, tc27) :: T18
theorem t27 : Tbl Try.prog lbL T27 := Tbl.add t18 hn 6 27 tc27 (by kernel_rfl) (fun a => by kernel_rfl)
noncomputable def g_disk_Rename (a : (DiskT × (ByteArray × (ByteArray × Unit)))) : Option (DiskT × (Int × Unit)) :=
 ((appX (a.2.2.1 :: []) (a.2.1 :: []) 16)).bind (fun (v1 : (List ByteArray)) =>
  ((g_disk_ready (a.1, (v1, ())))).bind (fun (v2 : Int) =>
   bif (v2 != 0) then bif (v2 != 0) then some (a.1, (v2, ()))
    else bif (a.1.2.2.1 == 0) then some ((a.1.1, (a.1.2.1, (a.1.2.2.1, (true, ())))), (9, ()))
    else bif (a.1.2.2.1 == (-1)) then ((getI a.1.1 0)).bind (fun (v3 : FileT) =>
      ((appX [] a.1.1 48)).bind (fun (v4 : (List FileT)) =>
       ((delX v4 0 (IntKind.wrap .i64 (0 + 1)))).bind (fun (v5 : (List FileT)) =>
        ((g_disk_find ((v5, a.1.2), a.2.2))).bind (fun (v6 : (Int × (Bool × Unit))) =>
         bif v6.2.1 then bif (inI v6.1 v5.length) then (v5[(Int.toNat v6.1)]?).bind (fun (v7 : FileT) =>
            some (((List.set v5 (Int.toNat v6.1) (a.2.2.1, v3.2)), a.1.2), (0, ())))
          else none
         else ((insX v5 v6.1 ((a.2.2.1, v3.2) :: []) 48)).bind (fun (v8 : (List FileT)) =>
          some ((v8, a.1.2), (0, ())))))))
    else ((getI a.1.1 0)).bind (fun (v9 : FileT) =>
     ((appX [] a.1.1 48)).bind (fun (v10 : (List FileT)) =>
      ((delX v10 0 (IntKind.wrap .i64 (0 + 1)))).bind (fun (v11 : (List FileT)) =>
       ((g_disk_find ((v11, (a.1.2.1, ((IntKind.wrap .i64 (a.1.2.2.1 - 1)), a.1.2.2.2))), a.2.2))).bind (fun (v12 : (Int × (Bool × Unit))) =>
        bif v12.2.1 then bif (inI v12.1 v11.length) then (v11[(Int.toNat v12.1)]?).bind (fun (v13 : FileT) =>
           some (((List.set v11 (Int.toNat v12.1) (a.2.2.1, v9.2)), (a.1.2.1, ((IntKind.wrap .i64 (a.1.2.2.1 - 1)), a.1.2.2.2))), (0, ())))
         else none
        else ((insX v11 v12.1 ((a.2.2.1, v9.2) :: []) 48)).bind (fun (v14 : (List FileT)) =>
         some ((v14, (a.1.2.1, ((IntKind.wrap .i64 (a.1.2.2.1 - 1)), a.1.2.2.2))), (0, ())))))))
   else ((g_disk_find (a.1, (a.2.1, ())))).bind (fun (v15 : (Int × (Bool × Unit))) =>
    bif (!v15.2.1) then some (a.1, (7, ()))
    else bif (a.1.2.2.1 == 0) then some ((a.1.1, (a.1.2.1, (a.1.2.2.1, (true, ())))), (9, ()))
    else bif (a.1.2.2.1 == (-1)) then ((getI a.1.1 v15.1)).bind (fun (v16 : FileT) =>
      ((appX [] a.1.1 48)).bind (fun (v17 : (List FileT)) =>
       ((delX v17 v15.1 (IntKind.wrap .i64 (v15.1 + 1)))).bind (fun (v18 : (List FileT)) =>
        ((g_disk_find ((v18, a.1.2), a.2.2))).bind (fun (v19 : (Int × (Bool × Unit))) =>
         bif v19.2.1 then bif (inI v19.1 v18.length) then (v18[(Int.toNat v19.1)]?).bind (fun (v20 : FileT) =>
            some (((List.set v18 (Int.toNat v19.1) (a.2.2.1, v16.2)), a.1.2), (0, ())))
          else none
         else ((insX v18 v19.1 ((a.2.2.1, v16.2) :: []) 48)).bind (fun (v21 : (List FileT)) =>
          some ((v21, a.1.2), (0, ())))))))
    else ((getI a.1.1 v15.1)).bind (fun (v22 : FileT) =>
     ((appX [] a.1.1 48)).bind (fun (v23 : (List FileT)) =>
      ((delX v23 v15.1 (IntKind.wrap .i64 (v15.1 + 1)))).bind (fun (v24 : (List FileT)) =>
       ((g_disk_find ((v24, (a.1.2.1, ((IntKind.wrap .i64 (a.1.2.2.1 - 1)), a.1.2.2.2))), a.2.2))).bind (fun (v25 : (Int × (Bool × Unit))) =>
        bif v25.2.1 then bif (inI v25.1 v24.length) then (v24[(Int.toNat v25.1)]?).bind (fun (v26 : FileT) =>
           some (((List.set v24 (Int.toNat v25.1) (a.2.2.1, v22.2)), (a.1.2.1, ((IntKind.wrap .i64 (a.1.2.2.1 - 1)), a.1.2.2.2))), (0, ())))
         else none
        else ((insX v24 v25.1 ((a.2.2.1, v22.2) :: []) 48)).bind (fun (v27 : (List FileT)) =>
         some ((v27, (a.1.2.1, ((IntKind.wrap .i64 (a.1.2.2.1 - 1)), a.1.2.2.2))), (0, ()))))))))))
noncomputable def tc19 : TCn := ⟨[shDisk, .str, .str], [shDisk, (.int .i64)], g_disk_Rename⟩
noncomputable def T19 := (19, tc19) :: T27
theorem t19 : Tbl Try.prog lbL T19 := Tbl.add t27 hn 6 19 tc19 (by kernel_rfl) (fun a => by kernel_rfl)
noncomputable def g_disk_Remove (a : (DiskT × (ByteArray × Unit))) : Option (DiskT × (Int × Unit)) :=
 ((appX [] (a.2.1 :: []) 16)).bind (fun (v1 : (List ByteArray)) =>
  ((g_disk_ready (a.1, (v1, ())))).bind (fun (v2 : Int) =>
   bif (v2 != 0) then bif (v2 != 0) then some (a.1, (v2, ()))
    else bif (a.1.2.2.1 == 0) then some ((a.1.1, (a.1.2.1, (a.1.2.2.1, (true, ())))), (9, ()))
    else bif (a.1.2.2.1 == (-1)) then ((appX [] a.1.1 48)).bind (fun (v3 : (List FileT)) =>
      ((delX v3 0 (IntKind.wrap .i64 (0 + 1)))).bind (fun (v4 : (List FileT)) =>
       some ((v4, a.1.2), (0, ()))))
    else ((appX [] a.1.1 48)).bind (fun (v5 : (List FileT)) =>
     ((delX v5 0 (IntKind.wrap .i64 (0 + 1)))).bind (fun (v6 : (List FileT)) =>
      some ((v6, (a.1.2.1, ((IntKind.wrap .i64 (a.1.2.2.1 - 1)), a.1.2.2.2))), (0, ()))))
   else ((g_disk_find a)).bind (fun (v7 : (Int × (Bool × Unit))) =>
    bif (!v7.2.1) then some (a.1, (7, ()))
    else bif (a.1.2.2.1 == 0) then some ((a.1.1, (a.1.2.1, (a.1.2.2.1, (true, ())))), (9, ()))
    else bif (a.1.2.2.1 == (-1)) then ((appX [] a.1.1 48)).bind (fun (v8 : (List FileT)) =>
      ((delX v8 v7.1 (IntKind.wrap .i64 (v7.1 + 1)))).bind (fun (v9 : (List FileT)) =>
       some ((v9, a.1.2), (0, ()))))
    else ((appX [] a.1.1 48)).bind (fun (v10 : (List FileT)) =>
     ((delX v10 v7.1 (IntKind.wrap .i64 (v7.1 + 1)))).bind (fun (v11 : (List FileT)) =>
      some ((v11, (a.1.2.1, ((IntKind.wrap .i64 (a.1.2.2.1 - 1)), a.1.2.2.2))), (0, ())))))))
noncomputable def tc30 : TCn := ⟨[shDisk, .str], [shDisk, (.int .i64)], g_disk_Remove⟩
noncomputable def T30 := (30, tc30) :: T19
theorem t30 : Tbl Try.prog lbL T30 := Tbl.add t19 hn 6 30 tc30 (by kernel_rfl) (fun a => by kernel_rfl)
noncomputable def g_disk_Cut (a : (DiskT × ErrorAddressStringT)) : Option (DiskT × (Int × Unit)) :=
 ((appX [] (a.2.1 :: []) 16)).bind (fun (v1 : (List ByteArray)) =>
  ((g_disk_ready (a.1, (v1, ())))).bind (fun (v2 : Int) =>
   bif (v2 != 0) then bif (v2 != 0) then some (a.1, (v2, ()))
    else (
     bif (decide (a.2.2.1 < 0)) then some ((decide (a.2.2.1 < 0)), ())
     else ((getI a.1.1 0)).bind (fun (v3 : FileT) =>
      some ((decide (a.2.2.1 > (v3.2.1.length : Int))), ()))).bind (fun (v4 : (Bool × Unit)) =>
     bif v4.1 then some (a.1, (1, ()))
     else bif (a.1.2.2.1 == 0) then some ((a.1.1, (a.1.2.1, (a.1.2.2.1, (true, ())))), (9, ()))
     else bif (a.1.2.2.1 == (-1)) then ((appX [] a.1.1 48)).bind (fun (v5 : (List FileT)) =>
       bif (inI 0 v5.length) then (v5[0]?).bind (fun (v6 : FileT) =>
         ((subI v6.2.1 0 a.2.2.1)).bind (fun (v7 : (List Int)) =>
          ((g_clone59 (v7, ()))).bind (fun (v8 : (List Int)) =>
           (v5[0]?).bind (fun (v9 : FileT) =>
            (v5[0]?).bind (fun (v10 : FileT) =>
             ((List.set v5 0 (v10.1, (v8, v10.2.2)))[0]?).bind (fun (v11 : FileT) =>
              some (((List.set (List.set v5 0 (v10.1, (v8, v10.2.2))) 0 (v11.1, (v11.2.1, ((if (false = true) then (if (a.2.2.1 > v9.2.2.1) then a.2.2.1 else v9.2.2.1) else (if (a.2.2.1 < v9.2.2.1) then a.2.2.1 else v9.2.2.1)), ())))), a.1.2), (0, ()))))))))
       else none)
     else ((appX [] a.1.1 48)).bind (fun (v12 : (List FileT)) =>
      bif (inI 0 v12.length) then (v12[0]?).bind (fun (v13 : FileT) =>
        ((subI v13.2.1 0 a.2.2.1)).bind (fun (v14 : (List Int)) =>
         ((g_clone59 (v14, ()))).bind (fun (v15 : (List Int)) =>
          (v12[0]?).bind (fun (v16 : FileT) =>
           (v12[0]?).bind (fun (v17 : FileT) =>
            ((List.set v12 0 (v17.1, (v15, v17.2.2)))[0]?).bind (fun (v18 : FileT) =>
             some (((List.set (List.set v12 0 (v17.1, (v15, v17.2.2))) 0 (v18.1, (v18.2.1, ((if (false = true) then (if (a.2.2.1 > v16.2.2.1) then a.2.2.1 else v16.2.2.1) else (if (a.2.2.1 < v16.2.2.1) then a.2.2.1 else v16.2.2.1)), ())))), (a.1.2.1, ((IntKind.wrap .i64 (a.1.2.2.1 - 1)), a.1.2.2.2))), (0, ()))))))))
      else none))
   else ((g_disk_find (a.1, (a.2.1, ())))).bind (fun (v19 : (Int × (Bool × Unit))) =>
    bif (!v19.2.1) then some (a.1, (7, ()))
    else (
     bif (decide (a.2.2.1 < 0)) then some ((decide (a.2.2.1 < 0)), ())
     else ((getI a.1.1 v19.1)).bind (fun (v20 : FileT) =>
      some ((decide (a.2.2.1 > (v20.2.1.length : Int))), ()))).bind (fun (v21 : (Bool × Unit)) =>
     bif v21.1 then some (a.1, (1, ()))
     else bif (a.1.2.2.1 == 0) then some ((a.1.1, (a.1.2.1, (a.1.2.2.1, (true, ())))), (9, ()))
     else bif (a.1.2.2.1 == (-1)) then ((appX [] a.1.1 48)).bind (fun (v22 : (List FileT)) =>
       bif (inI v19.1 v22.length) then (v22[(Int.toNat v19.1)]?).bind (fun (v23 : FileT) =>
         ((subI v23.2.1 0 a.2.2.1)).bind (fun (v24 : (List Int)) =>
          ((g_clone59 (v24, ()))).bind (fun (v25 : (List Int)) =>
           (v22[(Int.toNat v19.1)]?).bind (fun (v26 : FileT) =>
            (v22[(Int.toNat v19.1)]?).bind (fun (v27 : FileT) =>
             ((List.set v22 (Int.toNat v19.1) (v27.1, (v25, v27.2.2)))[(Int.toNat v19.1)]?).bind (fun (v28 : FileT) =>
              some (((List.set (List.set v22 (Int.toNat v19.1) (v27.1, (v25, v27.2.2))) (Int.toNat v19.1) (v28.1, (v28.2.1, ((if (false = true) then (if (a.2.2.1 > v26.2.2.1) then a.2.2.1 else v26.2.2.1) else (if (a.2.2.1 < v26.2.2.1) then a.2.2.1 else v26.2.2.1)), ())))), a.1.2), (0, ()))))))))
       else none)
     else ((appX [] a.1.1 48)).bind (fun (v29 : (List FileT)) =>
      bif (inI v19.1 v29.length) then (v29[(Int.toNat v19.1)]?).bind (fun (v30 : FileT) =>
        ((subI v30.2.1 0 a.2.2.1)).bind (fun (v31 : (List Int)) =>
         ((g_clone59 (v31, ()))).bind (fun (v32 : (List Int)) =>
          (v29[(Int.toNat v19.1)]?).bind (fun (v33 : FileT) =>
           (v29[(Int.toNat v19.1)]?).bind (fun (v34 : FileT) =>
            ((List.set v29 (Int.toNat v19.1) (v34.1, (v32, v34.2.2)))[(Int.toNat v19.1)]?).bind (fun (v35 : FileT) =>
             some (((List.set (List.set v29 (Int.toNat v19.1) (v34.1, (v32, v34.2.2))) (Int.toNat v19.1) (v35.1, (v35.2.1, ((if (false = true) then (if (a.2.2.1 > v33.2.2.1) then a.2.2.1 else v33.2.2.1) else (if (a.2.2.1 < v33.2.2.1) then a.2.2.1 else v33.2.2.1)), ())))), (a.1.2.1, ((IntKind.wrap .i64 (a.1.2.2.1 - 1)), a.1.2.2.2))), (0, ()))))))))
      else none)))))
noncomputable def tc20 : TCn := ⟨[shDisk, .str, (.int .i64)], [shDisk, (.int .i64)], g_disk_Cut⟩
noncomputable def T20 := (20, tc20) :: T30
theorem t20 : Tbl Try.prog lbL T20 := Tbl.add t30 hn 6 20 tc20 (by kernel_rfl) (fun a => by kernel_rfl)
noncomputable def g_disk_Back (a : (DiskT × ((List Int) × (Int × Unit)))) : Option (DiskT × (Int × Unit)) :=
 ((g_disk_Right (a.1, ()))).bind (fun (v1 : Bool) =>
  bif ((!v1) || (decide (a.2.2.1 < (-1)))) then some (a.1, (1, ()))
  else ((appX [] a.1.1 48)).bind (fun (v2 : (List FileT)) =>
   (
    loopO (fun (v3 : (Int × DiskT)) =>
     bif (decide (v3.1 < (v2.length : Int))) then bif (inI v3.1 v3.2.1.length) then (v3.2.1[(Int.toNat v3.1)]?).bind (fun (v4 : FileT) =>
        (
         bif (decide ((a.2.1.length : Int) > 0)) then bif (decide ((a.2.1.length : Int) = 0)) then none
          else ((getI a.2.1 (Int.tmod v3.1 (a.2.1.length : Int)))).bind (fun (v5 : Int) =>
           some (v5, ()))
         else some (0, ())).bind (fun (v6 : (Int × Unit)) =>
         ((g_disk_left (v4, v6))).bind (fun (v7 : FileT) =>
          bif (inI v3.1 v3.2.1.length) then (v3.2.1[(Int.toNat v3.1)]?).bind (fun (v8 : FileT) =>
            some (.inl ((IntKind.wrap .i64 (v3.1 + 1)), ((List.set v3.2.1 (Int.toNat v3.1) v7), v3.2.2))))
          else none)))
      else none
     else (some v3.2).map .inr) (0, (v2, a.1.2))).bind (fun (v9 : DiskT) =>
    some ((v9.1, (v9.2.1, (a.2.2.1, (false, ())))), (0, ())))))
noncomputable def tc14 : TCn := ⟨[shDisk, (.slice 1 (.int .i64)), (.int .i64)], [shDisk, (.int .i64)], g_disk_Back⟩
noncomputable def T14 := (14, tc14) :: T20
theorem t14 : Tbl Try.prog lbL T14 := Tbl.add t20 hn 6 14 tc14 (by kernel_rfl) (fun a => by kernel_rfl)
noncomputable def g_ref03_Named (a : (ByteArray × Unit)) : Option Bool :=
 (
  loopO (fun (v1 : (Int × Unit)) =>
   bif (decide (v1.1 < ((ByteArray.size a.1) : Int))) then ((idxB a.1 v1.1)).bind (fun (v2 : Int) =>
     bif ((((decide (v2 < 97)) || (decide (v2 > 122))) && ((decide (v2 < 48)) || (decide (v2 > 57)))) && (v2 != 46)) then ((some false).map .inr).map .inr
     else some (.inl ((IntKind.wrap .i64 (v1.1 + 1)), ())))
   else (some (.inl ())).map .inr) (0, ())).bind (eX (fun (v3 : Unit) =>
  some ((decide (((ByteArray.size a.1) : Int) > 0)) && (decide (((ByteArray.size a.1) : Int) ≤ 16)))))
noncomputable def tc61 : TCn := ⟨[.str], [.bool], g_ref03_Named⟩
noncomputable def T61 := (61, tc61) :: T14
theorem t61 : Tbl Try.prog lbL T61 := Tbl.add t14 hn 6 61 tc61 (by kernel_rfl) (fun a => by kernel_rfl)
noncomputable def g_ref03_Used (a : (DiskT × Unit)) : Option Int :=
 (
  loopO (fun (v1 : SlotT) =>
   bif (decide (v1.2.1 < (a.1.1.length : Int))) then ((getI a.1.1 v1.2.1)).bind (fun (v2 : FileT) =>
     some (.inl ((IntKind.wrap .i64 (v1.1 + (v2.2.1.length : Int))), ((IntKind.wrap .i64 (v1.2.1 + 1)), ()))))
   else (some (v1.1, ())).map .inr) (0, (0, ()))).bind (fun (v3 : (Int × Unit)) =>
  some v3.1)
noncomputable def tc23 : TCn := ⟨[shDisk], [(.int .i64)], g_ref03_Used⟩
noncomputable def T23 := (23, tc23) :: T61
theorem t23 : Tbl Try.prog lbL T23 := Tbl.add t61 hn 6 23 tc23 (by kernel_rfl) (fun a => by kernel_rfl)
noncomputable def g_ref03_Right (a : (DiskT × Unit)) : Option Bool :=
 bif ((((decide (a.1.2.1 < 0)) || (decide (a.1.2.1 > 65536))) || (decide (a.1.2.2.1 < (-1)))) || (decide ((a.1.1.length : Int) > 64))) then some false
 else (
  loopO (fun (v1 : SlotT) =>
   bif (decide (v1.2.1 < (a.1.1.length : Int))) then ((getI a.1.1 v1.2.1)).bind (fun (v2 : FileT) =>
     ((g_ref03_Named (v2.1, ()))).bind (fun (v3 : Bool) =>
      bif ((((!v3) || (decide (v2.2.2.1 < 0))) || (decide (v2.2.2.1 > (v2.2.1.length : Int)))) || (decide ((v2.2.1.length : Int) > 65536))) then ((some false).map .inr).map .inr
      else (
       bif (decide (v1.2.1 > 0)) then ((getI a.1.1 (IntKind.wrap .i64 (v1.2.1 - 1)))).bind (fun (v4 : FileT) =>
         some ((Go.Op.bytesLess (ByteArray.toList v2.1) (ByteArray.toList v4.1)) || (decide (v2.1 = v4.1))))
       else some false).bind (fun (v5 : Bool) =>
       bif v5 then ((some false).map .inr).map .inr
       else some (.inl ((IntKind.wrap .i64 (v1.1 + (v2.2.1.length : Int))), ((IntKind.wrap .i64 (v1.2.1 + 1)), ()))))))
   else (some (.inl (v1.1, ()))).map .inr) (0, (0, ()))).bind (eX (fun (v6 : (Int × Unit)) =>
  some (decide (v6.1 ≤ a.1.2.1))))
noncomputable def tc21 : TCn := ⟨[shDisk], [.bool], g_ref03_Right⟩
noncomputable def T21 := (21, tc21) :: T23
theorem t21 : Tbl Try.prog lbL T21 := Tbl.add t23 hn 6 21 tc21 (by kernel_rfl) (fun a => by kernel_rfl)
noncomputable def g_ref03_Find (a : (DiskT × (ByteArray × Unit))) : Option Int :=
 (
  loopO (fun (v1 : (Int × Unit)) =>
   bif (decide (v1.1 < (a.1.1.length : Int))) then ((getI a.1.1 v1.1)).bind (fun (v2 : FileT) =>
     bif (decide (v2.1 = a.2.1)) then ((some v1.1).map .inr).map .inr
     else some (.inl ((IntKind.wrap .i64 (v1.1 + 1)), ())))
   else (some (.inl ())).map .inr) (0, ())).bind (eX (fun (v3 : Unit) =>
  some (-1)))
noncomputable def tc63 : TCn := ⟨[shDisk, .str], [(.int .i64)], g_ref03_Find⟩
noncomputable def T63 := (63, tc63) :: T21
theorem t63 : Tbl Try.prog lbL T63 := Tbl.add t21 hn 6 63 tc63 (by kernel_rfl) (fun a => by kernel_rfl)
noncomputable def g_ref03_with (a : (DiskT × (FileT × Unit))) : Option DiskT :=
 (
  loopO (fun (v1 : ((List FileT) × (Bool × (Int × Unit)))) =>
   bif (decide (v1.2.2.1 < (a.1.1.length : Int))) then (
     bif (!v1.2.1) then ((getI a.1.1 v1.2.2.1)).bind (fun (v2 : FileT) =>
       some (!(Go.Op.bytesLess (ByteArray.toList v2.1) (ByteArray.toList a.2.1.1))))
     else some false).bind (fun (v3 : Bool) =>
     (
      bif v3 then ((appX v1.1 (a.2.1 :: []) 48)).bind (fun (v4 : (List FileT)) =>
        some (v4, (true, ())))
      else some (v1.1, (v1.2.1, ()))).bind (fun (v5 : ((List FileT) × (Bool × Unit))) =>
      ((getI a.1.1 v1.2.2.1)).bind (fun (v6 : FileT) =>
       (
        bif (!(decide (v6.1 = a.2.1.1))) then ((getI a.1.1 v1.2.2.1)).bind (fun (v7 : FileT) =>
          ((appX v5.1 (v7 :: []) 48)).bind (fun (v8 : (List FileT)) =>
           some (v8, ())))
        else some (v5.1, ())).bind (fun (v9 : ((List FileT) × Unit)) =>
        some (.inl (v9.1, (v5.2.1, ((IntKind.wrap .i64 (v1.2.2.1 + 1)), ()))))))))
   else (some (v1.1, (v1.2.1, ()))).map .inr) ([], (false, (0, ())))).bind (fun (v10 : ((List FileT) × (Bool × Unit))) =>
  (
   bif (!v10.2.1) then ((appX v10.1 (a.2.1 :: []) 48)).bind (fun (v11 : (List FileT)) =>
     some (v11, ()))
   else some (v10.1, ())).bind (fun (v12 : ((List FileT) × Unit)) =>
   some (v12.1, a.1.2)))
noncomputable def tc64 : TCn := ⟨[shDisk, shFile], [shDisk], g_ref03_with⟩
noncomputable def T64 := (64, tc64) :: T63
theorem t64 : Tbl Try.prog lbL T64 := Tbl.add t63 hn 6 64 tc64 (by kernel_rfl) (fun a => by kernel_rfl)
noncomputable def g_ref03_power (a : (DiskT × Unit)) : Option (DiskT × (Bool × Unit)) :=
 bif (a.1.2.2.1 == 0) then some ((a.1.1, (a.1.2.1, (a.1.2.2.1, (true, ())))), (false, ()))
 else (
  bif (decide (a.1.2.2.1 > 0)) then some (a.1.1, (a.1.2.1, ((IntKind.wrap .i64 (a.1.2.2.1 - 1)), a.1.2.2.2)))
  else some a.1).bind (fun (v1 : DiskT) =>
  some (v1, (true, ())))
noncomputable def tc65 : TCn := ⟨[shDisk], [shDisk, .bool], g_ref03_power⟩
noncomputable def T65 := (65, tc65) :: T64
theorem t65 : Tbl Try.prog lbL T65 := Tbl.add t64 hn 6 65 tc65 (by kernel_rfl) (fun a => by kernel_rfl)
noncomputable def g_ref03_without (a : (DiskT × (ByteArray × Unit))) : Option DiskT :=
 (
  loopO (fun (v1 : ((List FileT) × (Int × Unit))) =>
   bif (decide (v1.2.1 < (a.1.1.length : Int))) then ((getI a.1.1 v1.2.1)).bind (fun (v2 : FileT) =>
     (
      bif (!(decide (v2.1 = a.2.1))) then ((getI a.1.1 v1.2.1)).bind (fun (v3 : FileT) =>
        ((appX v1.1 (v3 :: []) 48)).bind (fun (v4 : (List FileT)) =>
         some (v4, ())))
      else some (v1.1, ())).bind (fun (v5 : ((List FileT) × Unit)) =>
      some (.inl (v5.1, ((IntKind.wrap .i64 (v1.2.1 + 1)), ())))))
   else (some (v1.1, ())).map .inr) ([], (0, ()))).bind (fun (v6 : ((List FileT) × Unit)) =>
  some (v6.1, a.1.2))
noncomputable def tc66 : TCn := ⟨[shDisk, .str], [shDisk], g_ref03_without⟩
noncomputable def T66 := (66, tc66) :: T65
theorem t66 : Tbl Try.prog lbL T66 := Tbl.add t65 hn 6 66 tc66 (by kernel_rfl) (fun a => by kernel_rfl)
noncomputable def g_ref03_first (a : (DiskT × (ByteArray × (ByteArray × Unit)))) : Option Int :=
 ((g_ref03_Right (a.1, ()))).bind (fun (v1 : Bool) =>
  bif (!v1) then some 1
  else bif a.1.2.2.2.1 then some 9
  else ((g_ref03_Named (a.2.1, ()))).bind (fun (v2 : Bool) =>
   (
    bif (!v2) then some true
    else ((g_ref03_Named a.2.2)).bind (fun (v3 : Bool) =>
     some (!v3))).bind (fun (v4 : Bool) =>
    bif v4 then some 1
    else some 0)))
noncomputable def tc62 : TCn := ⟨[shDisk, .str, .str], [(.int .i64)], g_ref03_first⟩
noncomputable def T62 := (62, tc62) :: T66
theorem t62 : Tbl Try.prog lbL T62 := Tbl.add t66 hn 6 62 tc62 (by kernel_rfl) (fun a => by kernel_rfl)
noncomputable def g_ref03_Append (a : (DiskT × (ByteArray × ((List Int) × Unit)))) : Option (DiskT × (Int × Unit)) :=
 ((g_ref03_first (a.1, (a.2.1, (a.2.1, ()))))).bind (fun (v1 : Int) =>
  bif (v1 != 0) then some (a.1, (v1, ()))
  else ((g_ref03_Find (a.1, (a.2.1, ())))).bind (fun (v2 : Int) =>
   (
    bif (decide (v2 ≥ 0)) then ((getI a.1.1 v2)).bind (fun (v3 : FileT) =>
      some v3)
    else some (a.2.1, ([], (0, ())))).bind (fun (v4 : FileT) =>
    ((g_ref03_Used (a.1, ()))).bind (fun (v5 : Int) =>
     bif ((decide ((IntKind.wrap .i64 (v5 + (a.2.2.1.length : Int))) > a.1.2.1)) || ((decide (v2 < 0)) && (decide ((a.1.1.length : Int) ≥ 64)))) then some (a.1, (6, ()))
     else ((appX [] v4.2.1 1)).bind (fun (v6 : (List Int)) =>
      ((appX v6 a.2.2.1 1)).bind (fun (v7 : (List Int)) =>
       ((g_ref03_with (a.1, ((v4.1, (v7, v4.2.2)), ())))).bind (fun (v8 : DiskT) =>
        ((g_ref03_power (v8, ()))).bind (fun (v9 : (DiskT × (Bool × Unit))) =>
         bif (!v9.2.1) then some (v9.1, (9, ()))
         else some (v9.1, (0, ()))))))))))
noncomputable def tc26 : TCn := ⟨[shDisk, .str, (.slice 1 (.int .u8))], [shDisk, (.int .i64)], g_ref03_Append⟩
noncomputable def T26 := (26, tc26) :: T62
theorem t26 : Tbl Try.prog lbL T26 := Tbl.add t62 hn 6 26 tc26 (by kernel_rfl) (fun a => by kernel_rfl)
noncomputable def g_ref03_Sync (a : (DiskT × (ByteArray × Unit))) : Option (DiskT × (Int × Unit)) :=
 ((g_ref03_first (a.1, (a.2.1, a.2)))).bind (fun (v1 : Int) =>
  bif (v1 != 0) then some (a.1, (v1, ()))
  else ((g_ref03_Find a)).bind (fun (v2 : Int) =>
   bif (decide (v2 < 0)) then some (a.1, (7, ()))
   else ((g_ref03_power (a.1, ()))).bind (fun (v3 : (DiskT × (Bool × Unit))) =>
    bif (!v3.2.1) then some (v3.1, (9, ()))
    else ((getI v3.1.1 v2)).bind (fun (v4 : FileT) =>
     ((g_ref03_with (v3.1, ((v4.1, (v4.2.1, ((v4.2.1.length : Int), ()))), ())))).bind (fun (v5 : DiskT) =>
      some (v5, (0, ())))))))
noncomputable def tc28 : TCn := ⟨[shDisk, .str], [shDisk, (.int .i64)], g_ref03_Sync⟩
noncomputable def T28 := (28, tc28) :: T26
theorem t28 : Tbl Try.prog lbL T28 := Tbl.add t26 hn 6 28 tc28 (by kernel_rfl) (fun a => by kernel_rfl)
noncomputable def g_ref03_Rename (a : (DiskT × (ByteArray × (ByteArray × Unit)))) : Option (DiskT × (Int × Unit)) :=
 ((g_ref03_first a)).bind (fun (v1 : Int) =>
  bif (v1 != 0) then some (a.1, (v1, ()))
  else ((g_ref03_Find (a.1, (a.2.1, ())))).bind (fun (v2 : Int) =>
   bif (decide (v2 < 0)) then some (a.1, (7, ()))
   else ((g_ref03_power (a.1, ()))).bind (fun (v3 : (DiskT × (Bool × Unit))) =>
    bif (!v3.2.1) then some (v3.1, (9, ()))
    else ((getI v3.1.1 v2)).bind (fun (v4 : FileT) =>
     ((g_ref03_without (v3.1, (a.2.1, ())))).bind (fun (v5 : DiskT) =>
      ((g_ref03_with (v5, ((a.2.2.1, v4.2), ())))).bind (fun (v6 : DiskT) =>
       some (v6, (0, ()))))))))
noncomputable def tc29 : TCn := ⟨[shDisk, .str, .str], [shDisk, (.int .i64)], g_ref03_Rename⟩
noncomputable def T29 := (29, tc29) :: T28
theorem t29 : Tbl Try.prog lbL T29 := Tbl.add t28 hn 6 29 tc29 (by kernel_rfl) (fun a => by kernel_rfl)
noncomputable def g_ref03_Remove (a : (DiskT × (ByteArray × Unit))) : Option (DiskT × (Int × Unit)) :=
 ((g_ref03_first (a.1, (a.2.1, a.2)))).bind (fun (v1 : Int) =>
  bif (v1 != 0) then some (a.1, (v1, ()))
  else ((g_ref03_Find a)).bind (fun (v2 : Int) =>
   bif (decide (v2 < 0)) then some (a.1, (7, ()))
   else ((g_ref03_power (a.1, ()))).bind (fun (v3 : (DiskT × (Bool × Unit))) =>
    bif (!v3.2.1) then some (v3.1, (9, ()))
    else ((g_ref03_without (v3.1, a.2))).bind (fun (v4 : DiskT) =>
     some (v4, (0, ()))))))
noncomputable def tc31 : TCn := ⟨[shDisk, .str], [shDisk, (.int .i64)], g_ref03_Remove⟩
noncomputable def T31 := (31, tc31) :: T29
theorem t31 : Tbl Try.prog lbL T31 := Tbl.add t29 hn 6 31 tc31 (by kernel_rfl) (fun a => by kernel_rfl)
noncomputable def g_ref03_Cut (a : (DiskT × ErrorAddressStringT)) : Option (DiskT × (Int × Unit)) :=
 ((g_ref03_first (a.1, (a.2.1, (a.2.1, ()))))).bind (fun (v1 : Int) =>
  bif (v1 != 0) then some (a.1, (v1, ()))
  else ((g_ref03_Find (a.1, (a.2.1, ())))).bind (fun (v2 : Int) =>
   bif (decide (v2 < 0)) then some (a.1, (7, ()))
   else ((getI a.1.1 v2)).bind (fun (v3 : FileT) =>
    bif ((decide (a.2.2.1 < 0)) || (decide (a.2.2.1 > (v3.2.1.length : Int)))) then some (a.1, (1, ()))
    else ((g_ref03_power (a.1, ()))).bind (fun (v4 : (DiskT × (Bool × Unit))) =>
     bif (!v4.2.1) then some (v4.1, (9, ()))
     else ((subI v3.2.1 0 a.2.2.1)).bind (fun (v5 : (List Int)) =>
      (
       bif (decide (v3.2.2.1 > a.2.2.1)) then some (v3.1, (v5, a.2.2))
       else some (v3.1, (v5, v3.2.2))).bind (fun (v6 : FileT) =>
       ((g_ref03_with (v4.1, (v6, ())))).bind (fun (v7 : DiskT) =>
        some (v7, (0, ())))))))))
noncomputable def tc32 : TCn := ⟨[shDisk, .str, (.int .i64)], [shDisk, (.int .i64)], g_ref03_Cut⟩
noncomputable def T32 := (32, tc32) :: T31
theorem t32 : Tbl Try.prog lbL T32 := Tbl.add t31 hn 6 32 tc32 (by kernel_rfl) (fun a => by kernel_rfl)
noncomputable def g_ref03_Read (a : (DiskT × (ByteArray × Unit))) : Option ((List Int) × (Int × Unit)) :=
 ((g_ref03_first (a.1, (a.2.1, a.2)))).bind (fun (v1 : Int) =>
  bif (v1 != 0) then some ([], (v1, ()))
  else ((g_ref03_Find a)).bind (fun (v2 : Int) =>
   bif (decide (v2 < 0)) then some ([], (7, ()))
   else ((getI a.1.1 v2)).bind (fun (v3 : FileT) =>
    some (v3.2.1, (0, ())))))
noncomputable def tc33 : TCn := ⟨[shDisk, .str], [(.slice 1 (.int .u8)), (.int .i64)], g_ref03_Read⟩
noncomputable def T33 := (33, tc33) :: T32
theorem t33 : Tbl Try.prog lbL T33 := Tbl.add t32 hn 6 33 tc33 (by kernel_rfl) (fun a => by kernel_rfl)
noncomputable def g_ref03_Back (a : (DiskT × ((List Int) × (Int × Unit)))) : Option (DiskT × (Int × Unit)) :=
 ((g_ref03_Right (a.1, ()))).bind (fun (v1 : Bool) =>
  bif ((!v1) || (decide (a.2.2.1 < (-1)))) then some (a.1, (1, ()))
  else (
   loopO (fun (v2 : ((List FileT) × (Int × Unit))) =>
    bif (decide (v2.2.1 < (a.1.1.length : Int))) then ((getI a.1.1 v2.2.1)).bind (fun (v3 : FileT) =>
      (
       bif (decide ((a.2.1.length : Int) > 0)) then bif (decide ((a.2.1.length : Int) = 0)) then none
        else ((getI a.2.1 (Int.tmod v2.2.1 (a.2.1.length : Int)))).bind (fun (v4 : Int) =>
         some (v4, ()))
       else some (0, ())).bind (fun (v5 : (Int × Unit)) =>
       (
        bif (decide (v5.1 < 0)) then some (0, ())
        else some v5).bind (fun (v6 : (Int × Unit)) =>
        (
         bif (decide (v6.1 > (IntKind.wrap .i64 ((v3.2.1.length : Int) - v3.2.2.1)))) then some ((IntKind.wrap .i64 ((v3.2.1.length : Int) - v3.2.2.1)), ())
         else some v6).bind (fun (v7 : (Int × Unit)) =>
         ((subI v3.2.1 0 (IntKind.wrap .i64 (v3.2.2.1 + v7.1)))).bind (fun (v8 : (List Int)) =>
          ((appX v2.1 ((v3.1, (v8, ((IntKind.wrap .i64 (v3.2.2.1 + v7.1)), ()))) :: []) 48)).bind (fun (v9 : (List FileT)) =>
           some (.inl (v9, ((IntKind.wrap .i64 (v2.2.1 + 1)), ())))))))))
    else (some (v2.1, ())).map .inr) ([], (0, ()))).bind (fun (v10 : ((List FileT) × Unit)) =>
   some ((v10.1, (a.1.2.1, (a.2.2.1, (false, ())))), (0, ()))))
noncomputable def tc34 : TCn := ⟨[shDisk, (.slice 1 (.int .i64)), (.int .i64)], [shDisk, (.int .i64)], g_ref03_Back⟩
noncomputable def T34 := (34, tc34) :: T33
theorem t34 : Tbl Try.prog lbL T34 := Tbl.add t33 hn 6 34 tc34 (by kernel_rfl) (fun a => by kernel_rfl)
noncomputable def g_ref03_Same (a : (DiskT × (DiskT × Unit))) : Option Bool :=
 bif (((((a.1.1.length : Int) != (a.2.1.1.length : Int)) || (a.1.2.1 != a.2.1.2.1)) || (a.1.2.2.1 != a.2.1.2.2.1)) || (a.1.2.2.2.1 != a.2.1.2.2.2.1)) then some false
 else (
  loopO (fun (v1 : (Int × Unit)) =>
   bif (decide (v1.1 < (a.1.1.length : Int))) then ((getI a.1.1 v1.1)).bind (fun (v2 : FileT) =>
     ((getI a.2.1.1 v1.1)).bind (fun (v3 : FileT) =>
      (
       bif ((!(decide (v2.1 = v3.1))) || (v2.2.2.1 != v3.2.2.1)) then some true
       else some (!(decide ((mkS v2.2.1) = (mkS v3.2.1))))).bind (fun (v4 : Bool) =>
       bif v4 then ((some false).map .inr).map .inr
       else some (.inl ((IntKind.wrap .i64 (v1.1 + 1)), ())))))
   else (some (.inl ())).map .inr) (0, ())).bind (eX (fun (v5 : Unit) =>
  some true))
noncomputable def tc16 : TCn := ⟨[shDisk, shDisk], [.bool], g_ref03_Same⟩
noncomputable def T16 := (16, tc16) :: T34
theorem t16 : Tbl Try.prog lbL T16 := Tbl.add t34 hn 6 16 tc16 (by kernel_rfl) (fun a => by kernel_rfl)
noncomputable def g_ref03_Short (a : (DiskT × Unit)) : Option Bool :=
 bif (decide ((a.1.1.length : Int) > 70)) then some false
 else (
  loopO (fun (v1 : SlotT) =>
   bif (decide (v1.2.1 < (a.1.1.length : Int))) then ((getI a.1.1 v1.2.1)).bind (fun (v2 : FileT) =>
     (
      bif (decide ((v2.2.1.length : Int) > 70000)) then some true
      else ((getI a.1.1 v1.2.1)).bind (fun (v3 : FileT) =>
       some (decide (((ByteArray.size v3.1) : Int) > 100)))).bind (fun (v4 : Bool) =>
      bif v4 then ((some false).map .inr).map .inr
      else ((getI a.1.1 v1.2.1)).bind (fun (v5 : FileT) =>
       some (.inl ((IntKind.wrap .i64 (v1.1 + (v5.2.1.length : Int))), ((IntKind.wrap .i64 (v1.2.1 + 1)), ()))))))
   else (some (.inl (v1.1, ()))).map .inr) (0, (0, ()))).bind (eX (fun (v6 : (Int × Unit)) =>
  some (decide (v6.1 ≤ 70000))))
noncomputable def tc12 : TCn := ⟨[shDisk], [.bool], g_ref03_Short⟩
noncomputable def T12 := (12, tc12) :: T16
theorem t12 : Tbl Try.prog lbL T12 := Tbl.add t16 hn 6 12 tc12 (by kernel_rfl) (fun a => by kernel_rfl)
noncomputable def g_crc_step (a : (Int × Unit)) : Option Int :=
 (
  loopO (fun (v1 : SlotT) =>
   bif (decide (v1.2.1 < 4)) then (
     bif ((Go.bits Go.BinOp.and Go.IntKind.u32 v1.1 1) == 1) then some ((Go.bits Go.BinOp.xor Go.IntKind.u32 (Int.fdiv v1.1 (2 ^ 1)) 3988292384), ())
     else some ((Int.fdiv v1.1 (2 ^ 1)), ())).bind (fun (v2 : (Int × Unit)) =>
     some (.inl (v2.1, ((IntKind.wrap .i64 (v1.2.1 + 1)), ()))))
   else (some (v1.1, ())).map .inr) (a.1, (0, ()))).bind (fun (v3 : (Int × Unit)) =>
  some v3.1)
noncomputable def tc90 : TCn := ⟨[(.int .u32)], [(.int .u32)], g_crc_step⟩
noncomputable def T90 := (90, tc90) :: T12
theorem t90 : Tbl Try.prog lbL T90 := Tbl.add t12 hn 6 90 tc90 (by kernel_rfl) (fun a => by kernel_rfl)
noncomputable def g_crc_More (a : (Int × ((List Int) × Unit))) : Option Int :=
 (
  loopO (fun (v1 : SlotT) =>
   bif (decide (v1.2.1 < (a.2.1.length : Int))) then ((getI a.2.1 v1.2.1)).bind (fun (v2 : Int) =>
     ((g_crc_step ((Go.bits Go.BinOp.and Go.IntKind.u32 (Go.bits Go.BinOp.xor Go.IntKind.u32 v1.1 (IntKind.wrap .u32 v2)) 15), ()))).bind (fun (v3 : Int) =>
      ((g_crc_step ((Go.bits Go.BinOp.and Go.IntKind.u32 (Go.bits Go.BinOp.xor Go.IntKind.u32 v3 (Int.fdiv (Go.bits Go.BinOp.xor Go.IntKind.u32 v1.1 (IntKind.wrap .u32 v2)) (2 ^ 4))) 15), ()))).bind (fun (v4 : Int) =>
       some (.inl ((Go.bits Go.BinOp.xor Go.IntKind.u32 v4 (Int.fdiv (Go.bits Go.BinOp.xor Go.IntKind.u32 v3 (Int.fdiv (Go.bits Go.BinOp.xor Go.IntKind.u32 v1.1 (IntKind.wrap .u32 v2)) (2 ^ 4))) (2 ^ 4))), ((IntKind.wrap .i64 (v1.2.1 + 1)), ()))))))
   else (some (v1.1, ())).map .inr) ((Go.bits Go.BinOp.xor Go.IntKind.u32 (if ((Go.IntKind.signed Go.IntKind.u32) = true) then (-1) else (Go.IntKind.max Go.IntKind.u32)) a.1), (0, ()))).bind (fun (v5 : (Int × Unit)) =>
  some (Go.bits Go.BinOp.xor Go.IntKind.u32 (if ((Go.IntKind.signed Go.IntKind.u32) = true) then (-1) else (Go.IntKind.max Go.IntKind.u32)) v5.1))
noncomputable def tc87 : TCn := ⟨[(.int .u32), (.slice 1 (.int .u8))], [(.int .u32)], g_crc_More⟩
noncomputable def T87 := (87, tc87) :: T90
theorem t87 : Tbl Try.prog lbL T87 := Tbl.add t90 hn 6 87 tc87 (by kernel_rfl) (fun a => by kernel_rfl)
noncomputable def g_crc_Sum (a : ((List Int) × Unit)) : Option Int :=
 ((g_crc_More (0, a))).bind (fun (v1 : Int) =>
  some v1)
noncomputable def tc82 : TCn := ⟨[(.slice 1 (.int .u8))], [(.int .u32)], g_crc_Sum⟩
noncomputable def T82 := (82, tc82) :: T87
theorem t82 : Tbl Try.prog lbL T82 := Tbl.add t87 hn 6 82 tc82 (by kernel_rfl) (fun a => by kernel_rfl)
noncomputable def g_ref02_More (a : (Int × ((List Int) × Unit))) : Option Int :=
 (
  loopO (fun (v1 : SlotT) =>
   bif (decide (v1.2.1 < (a.2.1.length : Int))) then ((getI a.2.1 v1.2.1)).bind (fun (v2 : Int) =>
     (
      loopO (fun (v3 : SlotT) =>
       bif (decide (v3.2.1 < 8)) then (
         bif ((Int.tmod v3.1 2) == 1) then some ((Go.bits Go.BinOp.xor Go.IntKind.u32 (IntKind.wrap .u32 (Int.tdiv v3.1 2)) 3988292384), ())
         else some ((IntKind.wrap .u32 (Int.tdiv v3.1 2)), ())).bind (fun (v4 : (Int × Unit)) =>
         some (.inl (v4.1, ((IntKind.wrap .i64 (v3.2.1 + 1)), ()))))
       else (some (v3.1, ())).map .inr) ((Go.bits Go.BinOp.xor Go.IntKind.u32 v1.1 (IntKind.wrap .u32 v2)), (0, ()))).bind (fun (v5 : (Int × Unit)) =>
      some (.inl (v5.1, ((IntKind.wrap .i64 (v1.2.1 + 1)), ())))))
   else (some (v1.1, ())).map .inr) ((Go.bits Go.BinOp.xor Go.IntKind.u32 a.1 4294967295), (0, ()))).bind (fun (v6 : (Int × Unit)) =>
  some (Go.bits Go.BinOp.xor Go.IntKind.u32 v6.1 4294967295))
noncomputable def tc83 : TCn := ⟨[(.int .u32), (.slice 1 (.int .u8))], [(.int .u32)], g_ref02_More⟩
noncomputable def T83 := (83, tc83) :: T82
theorem t83 : Tbl Try.prog lbL T83 := Tbl.add t82 hn 6 83 tc83 (by kernel_rfl) (fun a => by kernel_rfl)
noncomputable def g_ref02_Sum (a : ((List Int) × Unit)) : Option Int :=
 ((g_ref02_More (0, a))).bind (fun (v1 : Int) =>
  some v1)
noncomputable def tc68 : TCn := ⟨[(.slice 1 (.int .u8))], [(.int .u32)], g_ref02_Sum⟩
noncomputable def T68 := (68, tc68) :: T83
theorem t68 : Tbl Try.prog lbL T68 := Tbl.add t83 hn 6 68 tc68 (by kernel_rfl) (fun a => by kernel_rfl)
noncomputable def g_slot_Right (a : (SlotT × Unit)) : Option Bool :=
 some ((((decide (a.1.1 ≥ 1)) && (decide (a.1.1 ≤ 1000000000))) && (decide (a.1.2.1 ≥ 0))) && (decide (a.1.2.1 ≤ 1000000000)))
noncomputable def tc40 : TCn := ⟨[shSlot], [.bool], g_slot_Right⟩
noncomputable def T40 := (40, tc40) :: T68
theorem t40 : Tbl Try.prog lbL T40 := Tbl.add t68 hn 6 40 tc40 (by kernel_rfl) (fun a => by kernel_rfl)
noncomputable def g_ref14_Right (a : (SlotT × Unit)) : Option Bool :=
 some ((((decide (a.1.1 > 0)) && (decide (a.1.1 < 1000000001))) && (decide (a.1.2.1 > (-1)))) && (decide (a.1.2.1 < 1000000001)))
noncomputable def tc39 : TCn := ⟨[shSlot], [.bool], g_ref14_Right⟩
noncomputable def T39 := (39, tc39) :: T40
theorem t39 : Tbl Try.prog lbL T39 := Tbl.add t40 hn 6 39 tc39 (by kernel_rfl) (fun a => by kernel_rfl)
noncomputable def g_slot_bytes (a : (SlotT × Unit)) : Option (Int × (Int × (Int × (Int × (Int × (Int × (Int × (Int × (Int × (Int × (Int × (Int × (Int × (Int × (Int × (Int × (Int × (Int × SlotT)))))))))))))))))) :=
 ((g_crc_Sum (((IntKind.wrap .u8 (Int.fdiv a.1.1 (2 ^ 56))) :: ((IntKind.wrap .u8 (Int.fdiv a.1.1 (2 ^ 48))) :: ((IntKind.wrap .u8 (Int.fdiv a.1.1 (2 ^ 40))) :: ((IntKind.wrap .u8 (Int.fdiv a.1.1 (2 ^ 32))) :: ((IntKind.wrap .u8 (Int.fdiv a.1.1 (2 ^ 24))) :: ((IntKind.wrap .u8 (Int.fdiv a.1.1 (2 ^ 16))) :: ((IntKind.wrap .u8 (Int.fdiv a.1.1 (2 ^ 8))) :: ((IntKind.wrap .u8 (Int.fdiv a.1.1 (2 ^ 0))) :: ((IntKind.wrap .u8 (Int.fdiv a.1.2.1 (2 ^ 56))) :: ((IntKind.wrap .u8 (Int.fdiv a.1.2.1 (2 ^ 48))) :: ((IntKind.wrap .u8 (Int.fdiv a.1.2.1 (2 ^ 40))) :: ((IntKind.wrap .u8 (Int.fdiv a.1.2.1 (2 ^ 32))) :: ((IntKind.wrap .u8 (Int.fdiv a.1.2.1 (2 ^ 24))) :: ((IntKind.wrap .u8 (Int.fdiv a.1.2.1 (2 ^ 16))) :: ((IntKind.wrap .u8 (Int.fdiv a.1.2.1 (2 ^ 8))) :: ((IntKind.wrap .u8 (Int.fdiv a.1.2.1 (2 ^ 0))) :: [])))))))))))))))), ()))).bind (fun (v1 : Int) =>
  some ((IntKind.wrap .u8 (Int.fdiv a.1.1 (2 ^ 56))), ((IntKind.wrap .u8 (Int.fdiv a.1.1 (2 ^ 48))), ((IntKind.wrap .u8 (Int.fdiv a.1.1 (2 ^ 40))), ((IntKind.wrap .u8 (Int.fdiv a.1.1 (2 ^ 32))), ((IntKind.wrap .u8 (Int.fdiv a.1.1 (2 ^ 24))), ((IntKind.wrap .u8 (Int.fdiv a.1.1 (2 ^ 16))), ((IntKind.wrap .u8 (Int.fdiv a.1.1 (2 ^ 8))), ((IntKind.wrap .u8 (Int.fdiv a.1.1 (2 ^ 0))), ((IntKind.wrap .u8 (Int.fdiv a.1.2.1 (2 ^ 56))), ((IntKind.wrap .u8 (Int.fdiv a.1.2.1 (2 ^ 48))), ((IntKind.wrap .u8 (Int.fdiv a.1.2.1 (2 ^ 40))), ((IntKind.wrap .u8 (Int.fdiv a.1.2.1 (2 ^ 32))), ((IntKind.wrap .u8 (Int.fdiv a.1.2.1 (2 ^ 24))), ((IntKind.wrap .u8 (Int.fdiv a.1.2.1 (2 ^ 16))), ((IntKind.wrap .u8 (Int.fdiv a.1.2.1 (2 ^ 8))), ((IntKind.wrap .u8 (Int.fdiv a.1.2.1 (2 ^ 0))), ((IntKind.wrap .u8 (Int.fdiv v1 (2 ^ 0))), ((IntKind.wrap .u8 (Int.fdiv v1 (2 ^ 8))), ((IntKind.wrap .u8 (Int.fdiv v1 (2 ^ 16))), ((IntKind.wrap .u8 (Int.fdiv v1 (2 ^ 24))), ())))))))))))))))))))))
noncomputable def tc67 : TCn := ⟨[shSlot], [(.cons (.int .u8) (.cons (.int .u8) (.cons (.int .u8) (.cons (.int .u8) (.cons (.int .u8) (.cons (.int .u8) (.cons (.int .u8) (.cons (.int .u8) (.cons (.int .u8) (.cons (.int .u8) (.cons (.int .u8) (.cons (.int .u8) (.cons (.int .u8) (.cons (.int .u8) (.cons (.int .u8) (.cons (.int .u8) (.cons (.int .u8) (.cons (.int .u8) (.cons (.int .u8) (.cons (.int .u8) .nil))))))))))))))))))))], g_slot_bytes⟩
noncomputable def T67 := (67, tc67) :: T39
theorem t67 : Tbl Try.prog lbL T67 := Tbl.add t39 hn 6 67 tc67 (by kernel_rfl) (fun a => by kernel_rfl)
noncomputable def g_slot_Encode (a : (SlotT × Unit)) : Option ((List Int) × (Int × Unit)) :=
 ((g_slot_Right a)).bind (fun (v1 : Bool) =>
  bif (!v1) then some ([], (1, ()))
  else ((g_slot_bytes a)).bind (fun (v2 : (Int × (Int × (Int × (Int × (Int × (Int × (Int × (Int × (Int × (Int × (Int × (Int × (Int × (Int × (Int × (Int × (Int × (Int × SlotT))))))))))))))))))) =>
   some ((v2.1 :: (v2.2.1 :: (v2.2.2.1 :: (v2.2.2.2.1 :: (v2.2.2.2.2.1 :: (v2.2.2.2.2.2.1 :: (v2.2.2.2.2.2.2.1 :: (v2.2.2.2.2.2.2.2.1 :: (v2.2.2.2.2.2.2.2.2.1 :: (v2.2.2.2.2.2.2.2.2.2.1 :: (v2.2.2.2.2.2.2.2.2.2.2.1 :: (v2.2.2.2.2.2.2.2.2.2.2.2.1 :: (v2.2.2.2.2.2.2.2.2.2.2.2.2.1 :: (v2.2.2.2.2.2.2.2.2.2.2.2.2.2.1 :: (v2.2.2.2.2.2.2.2.2.2.2.2.2.2.2.1 :: (v2.2.2.2.2.2.2.2.2.2.2.2.2.2.2.2.1 :: (v2.2.2.2.2.2.2.2.2.2.2.2.2.2.2.2.2.1 :: (v2.2.2.2.2.2.2.2.2.2.2.2.2.2.2.2.2.2.1 :: (v2.2.2.2.2.2.2.2.2.2.2.2.2.2.2.2.2.2.2.1 :: (v2.2.2.2.2.2.2.2.2.2.2.2.2.2.2.2.2.2.2.2.1 :: [])))))))))))))))))))), (0, ()))))
noncomputable def tc38 : TCn := ⟨[shSlot], [(.slice 1 (.int .u8)), (.int .i64)], g_slot_Encode⟩
noncomputable def T38 := (38, tc38) :: T67
theorem t38 : Tbl Try.prog lbL T38 := Tbl.add t67 hn 6 38 tc38 (by kernel_rfl) (fun a => by kernel_rfl)
noncomputable def g_ref14_Encode (a : (SlotT × Unit)) : Option (List Int) :=
 (
  loopO (fun (v1 : (Int × (Int × (Int × ((List Int) × Unit))))) =>
   bif (decide (v1.2.2.1 ≥ 0)) then bif (inI v1.2.2.1 v1.2.2.2.1.length) then (v1.2.2.2.1[(Int.toNat v1.2.2.1)]?).bind (fun (v2 : Int) =>
      bif (inI (IntKind.wrap .i64 (8 + v1.2.2.1)) (List.set v1.2.2.2.1 (Int.toNat v1.2.2.1) (IntKind.wrap .u8 (Int.tmod v1.1 256))).length) then ((List.set v1.2.2.2.1 (Int.toNat v1.2.2.1) (IntKind.wrap .u8 (Int.tmod v1.1 256)))[(Int.toNat (IntKind.wrap .i64 (8 + v1.2.2.1)))]?).bind (fun (v3 : Int) =>
        some (.inl ((IntKind.wrap .i64 (Int.tdiv v1.1 256)), ((IntKind.wrap .i64 (Int.tdiv v1.2.1 256)), ((IntKind.wrap .i64 (v1.2.2.1 - 1)), ((List.set (List.set v1.2.2.2.1 (Int.toNat v1.2.2.1) (IntKind.wrap .u8 (Int.tmod v1.1 256))) (Int.toNat (IntKind.wrap .i64 (8 + v1.2.2.1))) (IntKind.wrap .u8 (Int.tmod v1.2.1 256))), ()))))))
      else none)
    else none
   else (some v1.2.2.2).map .inr) (a.1.1, (a.1.2.1, (7, ((List.replicate 16 0), ()))))).bind (fun (v4 : ((List Int) × Unit)) =>
  ((g_ref02_Sum v4)).bind (fun (v5 : Int) =>
   (
    loopO (fun (v6 : ((List Int) × SlotT)) =>
     bif (decide (v6.2.2.1 < 4)) then ((appX v6.1 ((IntKind.wrap .u8 (Int.tmod v6.2.1 256)) :: []) 1)).bind (fun (v7 : (List Int)) =>
       some (.inl (v7, ((IntKind.wrap .u32 (Int.tdiv v6.2.1 256)), ((IntKind.wrap .i64 (v6.2.2.1 + 1)), ())))))
     else (some (v6.1, ())).map .inr) (v4.1, (v5, (0, ())))).bind (fun (v8 : ((List Int) × Unit)) =>
    some v8.1)))
noncomputable def tc41 : TCn := ⟨[shSlot], [(.slice 1 (.int .u8))], g_ref14_Encode⟩
noncomputable def T41 := (41, tc41) :: T38
theorem t41 : Tbl Try.prog lbL T41 := Tbl.add t38 hn 6 41 tc41 (by kernel_rfl) (fun a => by kernel_rfl)
noncomputable def g_slot_Decode (a : ((List Int) × Unit)) : Option (SlotT × (Int × Unit)) :=
 bif ((a.1.length : Int) != 20) then some ((0, (0, ())), (2, ()))
 else (
  loopO (fun (v1 : (Int × SlotT)) =>
   bif (decide (v1.1 < 8)) then ((getI a.1 v1.1)).bind (fun (v2 : Int) =>
     ((getI a.1 (IntKind.wrap .i64 (8 + v1.1)))).bind (fun (v3 : Int) =>
      some (.inl ((IntKind.wrap .i64 (v1.1 + 1)), ((Go.bits Go.BinOp.or Go.IntKind.i64 (IntKind.wrap .i64 (v1.2.1 * (2 ^ 8))) (IntKind.wrap .i64 v2)), ((Go.bits Go.BinOp.or Go.IntKind.i64 (IntKind.wrap .i64 (v1.2.2.1 * (2 ^ 8))) (IntKind.wrap .i64 v3)), ()))))))
   else (some v1.2).map .inr) (0, (0, (0, ())))).bind (fun (v4 : SlotT) =>
  ((g_slot_bytes (v4, ()))).bind (fun (v5 : (Int × (Int × (Int × (Int × (Int × (Int × (Int × (Int × (Int × (Int × (Int × (Int × (Int × (Int × (Int × (Int × (Int × (Int × SlotT))))))))))))))))))) =>
   ((arrB 20 a.1)).bind (fun (v6 : (Int × (Int × (Int × (Int × (Int × (Int × (Int × (Int × (Int × (Int × (Int × (Int × (Int × (Int × (Int × (Int × (Int × (Int × SlotT))))))))))))))))))) =>
    bif (!((v5.1 == v6.1) && ((v5.2.1 == v6.2.1) && ((v5.2.2.1 == v6.2.2.1) && ((v5.2.2.2.1 == v6.2.2.2.1) && ((v5.2.2.2.2.1 == v6.2.2.2.2.1) && ((v5.2.2.2.2.2.1 == v6.2.2.2.2.2.1) && ((v5.2.2.2.2.2.2.1 == v6.2.2.2.2.2.2.1) && ((v5.2.2.2.2.2.2.2.1 == v6.2.2.2.2.2.2.2.1) && ((v5.2.2.2.2.2.2.2.2.1 == v6.2.2.2.2.2.2.2.2.1) && ((v5.2.2.2.2.2.2.2.2.2.1 == v6.2.2.2.2.2.2.2.2.2.1) && ((v5.2.2.2.2.2.2.2.2.2.2.1 == v6.2.2.2.2.2.2.2.2.2.2.1) && ((v5.2.2.2.2.2.2.2.2.2.2.2.1 == v6.2.2.2.2.2.2.2.2.2.2.2.1) && ((v5.2.2.2.2.2.2.2.2.2.2.2.2.1 == v6.2.2.2.2.2.2.2.2.2.2.2.2.1) && ((v5.2.2.2.2.2.2.2.2.2.2.2.2.2.1 == v6.2.2.2.2.2.2.2.2.2.2.2.2.2.1) && ((v5.2.2.2.2.2.2.2.2.2.2.2.2.2.2.1 == v6.2.2.2.2.2.2.2.2.2.2.2.2.2.2.1) && ((v5.2.2.2.2.2.2.2.2.2.2.2.2.2.2.2.1 == v6.2.2.2.2.2.2.2.2.2.2.2.2.2.2.2.1) && ((v5.2.2.2.2.2.2.2.2.2.2.2.2.2.2.2.2.1 == v6.2.2.2.2.2.2.2.2.2.2.2.2.2.2.2.2.1) && ((v5.2.2.2.2.2.2.2.2.2.2.2.2.2.2.2.2.2.1 == v6.2.2.2.2.2.2.2.2.2.2.2.2.2.2.2.2.2.1) && ((v5.2.2.2.2.2.2.2.2.2.2.2.2.2.2.2.2.2.2.1 == v6.2.2.2.2.2.2.2.2.2.2.2.2.2.2.2.2.2.2.1) && ((v5.2.2.2.2.2.2.2.2.2.2.2.2.2.2.2.2.2.2.2.1 == v6.2.2.2.2.2.2.2.2.2.2.2.2.2.2.2.2.2.2.2.1) && true))))))))))))))))))))) then some ((0, (0, ())), (10, ()))
    else ((g_slot_Right (v4, ()))).bind (fun (v7 : Bool) =>
     bif (!v7) then some ((0, (0, ())), (2, ()))
     else some (v4, (0, ()))))))
noncomputable def tc42 : TCn := ⟨[(.slice 1 (.int .u8))], [shSlot, (.int .i64)], g_slot_Decode⟩
noncomputable def T42 := (42, tc42) :: T41
theorem t42 : Tbl Try.prog lbL T42 := Tbl.add t41 hn 6 42 tc42 (by kernel_rfl) (fun a => by kernel_rfl)
noncomputable def g_ref14_Decode (a : ((List Int) × Unit)) : Option (SlotT × (Int × Unit)) :=
 bif ((a.1.length : Int) != 20) then some ((0, (0, ())), (2, ()))
 else ((subI a.1 0 16)).bind (fun (v1 : (List Int)) =>
  ((g_ref02_Sum (v1, ()))).bind (fun (v2 : Int) =>
   (
    loopO (fun (v3 : (Int × (Int × SlotT))) =>
     bif (decide (v3.2.1 < 4)) then ((getI a.1 (IntKind.wrap .i64 (16 + v3.2.1)))).bind (fun (v4 : Int) =>
       bif (v4 != (IntKind.wrap .u8 (Int.tmod v3.1 256))) then ((some ((0, (0, ())), (10, ()))).map .inr).map .inr
       else some (.inl ((IntKind.wrap .u32 (Int.tdiv v3.1 256)), ((IntKind.wrap .i64 (v3.2.1 + 1)), v3.2.2))))
     else (some (.inl v3.2.2)).map .inr) (v2, (0, (0, (0, ()))))).bind (eX (fun (v5 : SlotT) =>
    (
     loopO (fun (v6 : (Int × SlotT)) =>
      bif (decide (v6.2.2.1 < 8)) then ((getI a.1 v6.2.2.1)).bind (fun (v7 : Int) =>
        ((getI a.1 (IntKind.wrap .i64 (8 + v6.2.2.1)))).bind (fun (v8 : Int) =>
         some (.inl ((IntKind.wrap .u64 ((IntKind.wrap .u64 (v6.1 * 256)) + (IntKind.wrap .u64 v7))), ((IntKind.wrap .u64 ((IntKind.wrap .u64 (v6.2.1 * 256)) + (IntKind.wrap .u64 v8))), ((IntKind.wrap .i64 (v6.2.2.1 + 1)), ()))))))
      else (some (v6.1, (v6.2.1, ()))).map .inr) (0, (0, (0, ())))).bind (fun (v9 : SlotT) =>
     ((g_ref14_Right (((IntKind.wrap .i64 v9.1), ((IntKind.wrap .i64 v9.2.1), ())), ()))).bind (fun (v10 : Bool) =>
      bif (!v10) then some ((0, (0, ())), (2, ()))
      else some (((IntKind.wrap .i64 v9.1), ((IntKind.wrap .i64 v9.2.1), ())), (0, ()))))))))
noncomputable def tc43 : TCn := ⟨[(.slice 1 (.int .u8))], [shSlot, (.int .i64)], g_ref14_Decode⟩
noncomputable def T43 := (43, tc43) :: T42
theorem t43 : Tbl Try.prog lbL T43 := Tbl.add t42 hn 6 43 tc43 (by kernel_rfl) (fun a => by kernel_rfl)
noncomputable def g_slot_Name (a : (Int × Unit)) : Option ByteArray :=
 bif ((Int.tmod a.1 2) == 0) then some (ByteArray.mk (List.toArray (115 :: (108 :: (111 :: (116 :: (46 :: (48 :: []))))))))
 else some (ByteArray.mk (List.toArray (115 :: (108 :: (111 :: (116 :: (46 :: (49 :: []))))))))
noncomputable def tc44 : TCn := ⟨[(.int .i64)], [.str], g_slot_Name⟩
noncomputable def T44 := (44, tc44) :: T43
theorem t44 : Tbl Try.prog lbL T44 := Tbl.add t43 hn 6 44 tc44 (by kernel_rfl) (fun a => by kernel_rfl)
noncomputable def g_ref14_Name (a : (Int × Unit)) : Option ByteArray :=
 bif ((Int.tmod a.1 2) != 0) then some (ByteArray.mk (List.toArray (115 :: (108 :: (111 :: (116 :: (46 :: (49 :: []))))))))
 else some (ByteArray.mk (List.toArray (115 :: (108 :: (111 :: (116 :: (46 :: (48 :: []))))))))
noncomputable def tc45 : TCn := ⟨[(.int .i64)], [.str], g_ref14_Name⟩
noncomputable def T45 := (45, tc45) :: T44
theorem t45 : Tbl Try.prog lbL T45 := Tbl.add t44 hn 6 45 tc45 (by kernel_rfl) (fun a => by kernel_rfl)
noncomputable def g_slot_Read (a : (DiskT × Unit)) : Option (SlotT × (Int × Unit)) :=
 ((g_disk_Right a)).bind (fun (v1 : Bool) =>
  bif (!v1) then some ((0, (0, ())), (1, ()))
  else bif a.1.2.2.2.1 then some ((0, (0, ())), (9, ()))
  else (
   loopO (fun (v2 : (Int × SlotT)) =>
    bif (decide (v2.1 < 2)) then ((g_slot_Name (v2.1, ()))).bind (fun (v3 : ByteArray) =>
      ((g_disk_Read (a.1, (v3, ())))).bind (fun (v4 : ((List Int) × (Int × Unit))) =>
       ((g_slot_Decode (v4.1, ()))).bind (fun (v5 : (SlotT × (Int × Unit))) =>
        (
         bif (v5.2.1 == 0) then some ((Int.tmod v5.1.1 2) == v2.1)
         else some false).bind (fun (v6 : Bool) =>
         (
          bif (v6 && (decide (v5.1.1 > v2.2.1))) then some v5.1
          else some v2.2).bind (fun (v7 : SlotT) =>
          some (.inl ((IntKind.wrap .i64 (v2.1 + 1)), v7)))))))
    else (some v2.2).map .inr) (0, (0, (0, ())))).bind (fun (v8 : SlotT) =>
   bif (v8.1 == 0) then some ((0, (0, ())), (7, ()))
   else some (v8, (0, ()))))
noncomputable def tc46 : TCn := ⟨[shDisk], [shSlot, (.int .i64)], g_slot_Read⟩
noncomputable def T46 := (46, tc46) :: T45
theorem t46 : Tbl Try.prog lbL T46 := Tbl.add t45 hn 6 46 tc46 (by kernel_rfl) (fun a => by kernel_rfl)
noncomputable def g_ref14_Read (a : (DiskT × Unit)) : Option (SlotT × (Int × Unit)) :=
 ((g_ref03_Right a)).bind (fun (v1 : Bool) =>
  bif (!v1) then some ((0, (0, ())), (1, ()))
  else bif a.1.2.2.2.1 then some ((0, (0, ())), (9, ()))
  else (
   loopO (fun (v2 : (Int × SlotT)) =>
    bif (decide (v2.1 < (a.1.1.length : Int))) then ((getI a.1.1 v2.1)).bind (fun (v3 : FileT) =>
      ((g_ref14_Decode (v3.2.1, ()))).bind (fun (v4 : (SlotT × (Int × Unit))) =>
       (
        bif (v4.2.1 == 0) then ((getI a.1.1 v2.1)).bind (fun (v5 : FileT) =>
          ((g_ref14_Name (v4.1.1, ()))).bind (fun (v6 : ByteArray) =>
           some (decide (v5.1 = v6))))
        else some false).bind (fun (v7 : Bool) =>
        (
         bif (v7 && (decide (v4.1.1 > v2.2.1))) then some v4.1
         else some v2.2).bind (fun (v8 : SlotT) =>
         some (.inl ((IntKind.wrap .i64 (v2.1 + 1)), v8))))))
    else (some v2.2).map .inr) (0, (0, (0, ())))).bind (fun (v9 : SlotT) =>
   bif (v9.1 == 0) then some (v9, (7, ()))
   else some (v9, (0, ()))))
noncomputable def tc47 : TCn := ⟨[shDisk], [shSlot, (.int .i64)], g_ref14_Read⟩
noncomputable def T47 := (47, tc47) :: T46
theorem t47 : Tbl Try.prog lbL T47 := Tbl.add t46 hn 6 47 tc47 (by kernel_rfl) (fun a => by kernel_rfl)
noncomputable def g_slot_Write (a : (DiskT × (SlotT × Unit))) : Option (DiskT × (Int × Unit)) :=
 ((g_slot_Right a.2)).bind (fun (v1 : Bool) =>
  bif (!v1) then some (a.1, (1, ()))
  else ((g_slot_Read (a.1, ()))).bind (fun (v2 : (SlotT × (Int × Unit))) =>
   (
    bif (v2.2.1 == 1) then some ((v2.2.1 == 1), ())
    else some ((v2.2.1 == 9), ())).bind (fun (v3 : (Bool × Unit)) =>
    bif v3.1 then some (a.1, v2.2)
    else bif (a.2.1.1 != (IntKind.wrap .i64 (v2.1.1 + 1))) then some (a.1, (8, ()))
    else ((g_slot_Name (a.2.1.1, ()))).bind (fun (v4 : ByteArray) =>
     ((g_slot_bytes a.2)).bind (fun (v5 : (Int × (Int × (Int × (Int × (Int × (Int × (Int × (Int × (Int × (Int × (Int × (Int × (Int × (Int × (Int × (Int × (Int × (Int × SlotT))))))))))))))))))) =>
      ((g_disk_Read (a.1, (v4, ())))).bind (fun (v6 : ((List Int) × (Int × Unit))) =>
       bif (v6.2.1 == 7) then ((g_disk_Append (a.1, (v4, ((v5.1 :: (v5.2.1 :: (v5.2.2.1 :: (v5.2.2.2.1 :: (v5.2.2.2.2.1 :: (v5.2.2.2.2.2.1 :: (v5.2.2.2.2.2.2.1 :: (v5.2.2.2.2.2.2.2.1 :: (v5.2.2.2.2.2.2.2.2.1 :: (v5.2.2.2.2.2.2.2.2.2.1 :: (v5.2.2.2.2.2.2.2.2.2.2.1 :: (v5.2.2.2.2.2.2.2.2.2.2.2.1 :: (v5.2.2.2.2.2.2.2.2.2.2.2.2.1 :: (v5.2.2.2.2.2.2.2.2.2.2.2.2.2.1 :: (v5.2.2.2.2.2.2.2.2.2.2.2.2.2.2.1 :: (v5.2.2.2.2.2.2.2.2.2.2.2.2.2.2.2.1 :: (v5.2.2.2.2.2.2.2.2.2.2.2.2.2.2.2.2.1 :: (v5.2.2.2.2.2.2.2.2.2.2.2.2.2.2.2.2.2.1 :: (v5.2.2.2.2.2.2.2.2.2.2.2.2.2.2.2.2.2.2.1 :: (v5.2.2.2.2.2.2.2.2.2.2.2.2.2.2.2.2.2.2.2.1 :: [])))))))))))))))))))), ()))))).bind (fun (v7 : (DiskT × (Int × Unit))) =>
         bif (v7.2.1 != 0) then some v7
         else ((g_disk_Sync (v7.1, (v4, ())))).bind (fun (v8 : (DiskT × (Int × Unit))) =>
          bif (v8.2.1 != 0) then some v8
          else some (v8.1, (0, ()))))
       else ((g_disk_Cut (a.1, (v4, (0, ()))))).bind (fun (v9 : (DiskT × (Int × Unit))) =>
        bif (v9.2.1 != 0) then some v9
        else ((g_disk_Append (v9.1, (v4, ((v5.1 :: (v5.2.1 :: (v5.2.2.1 :: (v5.2.2.2.1 :: (v5.2.2.2.2.1 :: (v5.2.2.2.2.2.1 :: (v5.2.2.2.2.2.2.1 :: (v5.2.2.2.2.2.2.2.1 :: (v5.2.2.2.2.2.2.2.2.1 :: (v5.2.2.2.2.2.2.2.2.2.1 :: (v5.2.2.2.2.2.2.2.2.2.2.1 :: (v5.2.2.2.2.2.2.2.2.2.2.2.1 :: (v5.2.2.2.2.2.2.2.2.2.2.2.2.1 :: (v5.2.2.2.2.2.2.2.2.2.2.2.2.2.1 :: (v5.2.2.2.2.2.2.2.2.2.2.2.2.2.2.1 :: (v5.2.2.2.2.2.2.2.2.2.2.2.2.2.2.2.1 :: (v5.2.2.2.2.2.2.2.2.2.2.2.2.2.2.2.2.1 :: (v5.2.2.2.2.2.2.2.2.2.2.2.2.2.2.2.2.2.1 :: (v5.2.2.2.2.2.2.2.2.2.2.2.2.2.2.2.2.2.2.1 :: (v5.2.2.2.2.2.2.2.2.2.2.2.2.2.2.2.2.2.2.2.1 :: [])))))))))))))))))))), ()))))).bind (fun (v10 : (DiskT × (Int × Unit))) =>
         bif (v10.2.1 != 0) then some v10
         else ((g_disk_Sync (v10.1, (v4, ())))).bind (fun (v11 : (DiskT × (Int × Unit))) =>
          bif (v11.2.1 != 0) then some v11
          else some (v11.1, (0, ())))))))))))
noncomputable def tc48 : TCn := ⟨[shDisk, shSlot], [shDisk, (.int .i64)], g_slot_Write⟩
noncomputable def T48 := (48, tc48) :: T47
theorem t48 : Tbl Try.prog lbL T48 := Tbl.add t47 hn 6 48 tc48 (by kernel_rfl) (fun a => by kernel_rfl)
noncomputable def g_ref14_Write (a : (DiskT × (SlotT × Unit))) : Option (DiskT × (Int × Unit)) :=
 ((g_ref14_Read (a.1, ()))).bind (fun (v1 : (SlotT × (Int × Unit))) =>
  (
   bif (v1.2.1 == 1) then some true
   else ((g_ref14_Right a.2)).bind (fun (v2 : Bool) =>
    some (!v2))).bind (fun (v3 : Bool) =>
   bif v3 then some (a.1, (1, ()))
   else bif (v1.2.1 == 9) then some (a.1, (9, ()))
   else bif ((IntKind.wrap .i64 (v1.1.1 + 1)) != a.2.1.1) then some (a.1, (8, ()))
   else ((g_ref14_Name (a.2.1.1, ()))).bind (fun (v4 : ByteArray) =>
    ((g_ref03_Find (a.1, (v4, ())))).bind (fun (v5 : Int) =>
     (
      bif (decide (v5 ≥ 0)) then ((g_ref03_Cut (a.1, (v4, (0, ()))))).bind (fun (v6 : (DiskT × (Int × Unit))) =>
        bif (v6.2.1 != 0) then (some v6).map .inr
        else some (.inl (v6.1.1, (v6.1.2.1, (v6.1.2.2.1, (v6.1.2.2.2.1, ([], (0, (0, (false, ()))))))))))
      else some (.inl (a.1.1, (a.1.2.1, (a.1.2.2.1, (a.1.2.2.2.1, ([], (0, (0, (false, ())))))))))).bind (eX (fun (v7 : ((List FileT) × (Int × (Int × (Bool × DiskT))))) =>
      ((g_ref14_Encode a.2)).bind (fun (v8 : (List Int)) =>
       ((g_ref03_Append ((v7.1, (v7.2.1, (v7.2.2.1, (v7.2.2.2.1, ())))), (v4, (v8, ()))))).bind (fun (v9 : (DiskT × (Int × Unit))) =>
        bif (v9.2.1 != 0) then some v9
        else ((g_ref03_Sync (v9.1, (v4, ())))).bind (fun (v10 : (DiskT × (Int × Unit))) =>
         some v10)))))))))
noncomputable def tc49 : TCn := ⟨[shDisk, shSlot], [shDisk, (.int .i64)], g_ref14_Write⟩
noncomputable def T49 := (49, tc49) :: T48
theorem t49 : Tbl Try.prog lbL T49 := Tbl.add t48 hn 6 49 tc49 (by kernel_rfl) (fun a => by kernel_rfl)
noncomputable def g_law14_awake (a : Unit) : Option Bool :=
 ((g_slot_Read (([], (99, ((-1), (false, ())))), ()))).bind (fun (v1 : (SlotT × (Int × Unit))) =>
  ((g_slot_Write (([], (99, ((-1), (false, ())))), ((1, (4, ())), ())))).bind (fun (v2 : (DiskT × (Int × Unit))) =>
   ((g_slot_Write (v2.1, ((2, (7, ())), ())))).bind (fun (v3 : (DiskT × (Int × Unit))) =>
    ((g_slot_Write (v3.1, ((2, (7, ())), ())))).bind (fun (v4 : (DiskT × (Int × Unit))) =>
     ((g_slot_Read (v3.1, ()))).bind (fun (v5 : (SlotT × (Int × Unit))) =>
      (
       bif (((((((v1.2.1 == 7) && (v2.2.1 == 0)) && (v3.2.1 == 0)) && (v4.2.1 == 8)) && (v5.2.1 == 0)) && ((v5.1.1 == 2) && ((v5.1.2.1 == 7) && true))) && ((v3.1.1.length : Int) == 2)) then ((g_slot_Name (3, ()))).bind (fun (v6 : ByteArray) =>
         some (decide (v6 = (ByteArray.mk (List.toArray (115 :: (108 :: (111 :: (116 :: (46 :: (49 :: [])))))))))))
       else some false).bind (fun (v7 : Bool) =>
       some v7))))))
noncomputable def tc37 : TCn := ⟨[], [.bool], g_law14_awake⟩
noncomputable def T37 := (37, tc37) :: T49
theorem t37 : Tbl Try.prog lbL T37 := Tbl.add t49 hn 6 37 tc37 (by kernel_rfl) (fun a => by kernel_rfl)
noncomputable def g_law14_SlotRight (a : (DiskT × (SlotT × ((List Int) × Unit)))) : Option Bool :=
 ((g_law14_awake ())).bind (fun (v1 : Bool) =>
  bif (!v1) then some false
  else ((g_ref03_Short (a.1, ()))).bind (fun (v2 : Bool) =>
   bif ((!v2) || (decide ((a.2.2.1.length : Int) > 99))) then some true
   else ((g_slot_Encode (a.2.1, ()))).bind (fun (v3 : ((List Int) × (Int × Unit))) =>
    ((g_ref14_Right (a.2.1, ()))).bind (fun (v4 : Bool) =>
     ((g_slot_Right (a.2.1, ()))).bind (fun (v5 : Bool) =>
      (
       bif (v5 != v4) then some true
       else (
        bif v4 then (
          bif (v3.2.1 != 0) then some true
          else ((g_ref14_Encode (a.2.1, ()))).bind (fun (v6 : (List Int)) =>
           some (!(decide ((mkS v3.1) = (mkS v6)))))).bind (fun (v7 : Bool) =>
          some v7)
        else some false).bind (fun (v8 : Bool) =>
        some v8)).bind (fun (v9 : Bool) =>
       bif (v9 || ((!v4) && ((v3.2.1 != 1) || ((v3.1.length : Int) != 0)))) then some false
       else ((g_slot_Decode a.2.2)).bind (fun (v10 : (SlotT × (Int × Unit))) =>
        ((g_ref14_Decode a.2.2)).bind (fun (v11 : (SlotT × (Int × Unit))) =>
         (
          bif ((!((v10.1.1 == v11.1.1) && ((v10.1.2.1 == v11.1.2.1) && true))) || (v10.2.1 != v11.2.1)) then some true
          else ((g_slot_Name (a.2.1.1, ()))).bind (fun (v12 : ByteArray) =>
           ((g_ref14_Name (a.2.1.1, ()))).bind (fun (v13 : ByteArray) =>
            some (!(decide (v12 = v13)))))).bind (fun (v14 : Bool) =>
          bif v14 then some false
          else ((g_slot_Read (a.1, ()))).bind (fun (v15 : (SlotT × (Int × Unit))) =>
           ((g_ref14_Read (a.1, ()))).bind (fun (v16 : (SlotT × (Int × Unit))) =>
            bif ((!((v15.1.1 == v16.1.1) && ((v15.1.2.1 == v16.1.2.1) && true))) || (v15.2.1 != v16.2.1)) then some false
            else ((g_slot_Write (a.1, (a.2.1, ())))).bind (fun (v17 : (DiskT × (Int × Unit))) =>
             ((g_ref14_Write (a.1, (a.2.1, ())))).bind (fun (v18 : (DiskT × (Int × Unit))) =>
              (
               bif (v17.2.1 == v18.2.1) then ((g_ref03_Same (v17.1, (v18.1, ())))).bind (fun (v19 : Bool) =>
                 some v19)
               else some false).bind (fun (v20 : Bool) =>
               some v20))))))))))))))
noncomputable def tc8 : TCn := ⟨[shDisk, shSlot, (.slice 1 (.int .u8))], [.bool], g_law14_SlotRight⟩
noncomputable def T8 := (8, tc8) :: T37
theorem t8 : Tbl Try.prog lbL T8 := Tbl.add t37 hn 6 8 tc8 (by kernel_rfl) (fun a => by kernel_rfl)
noncomputable def g_law14_SlotKeeps (a : (DiskT × (Int × (Int × ((List Int) × Unit))))) : Option Bool :=
 ((g_law14_awake ())).bind (fun (v1 : Bool) =>
  bif (!v1) then some false
  else ((g_ref03_Short (a.1, ()))).bind (fun (v2 : Bool) =>
   bif ((((!v2) || (decide ((a.2.2.2.1.length : Int) > 9))) || (decide (a.2.1 < 0))) || (decide (a.2.1 > 1000000000))) then some true
   else ((g_disk_Back (a.1, ((65536 :: []), ((Int.tmod (IntKind.wrap .i64 a.2.2.1) 5), ()))))).bind (fun (v3 : (DiskT × (Int × Unit))) =>
    bif (v3.2.1 != 0) then some true
    else ((g_slot_Read (v3.1, ()))).bind (fun (v4 : (SlotT × (Int × Unit))) =>
     bif (((v4.2.1 != 0) && (v4.2.1 != 7)) || (decide (v4.1.1 ≥ 999999999))) then some ((v4.2.1 == 0) && (decide (v4.1.1 ≥ 999999999)))
     else ((g_slot_Write (v3.1, (((IntKind.wrap .i64 (v4.1.1 + 1)), (a.2.1, ())), ())))).bind (fun (v5 : (DiskT × (Int × Unit))) =>
      ((g_disk_Back (v5.1, (a.2.2.2.1, ((-1), ()))))).bind (fun (v6 : (DiskT × (Int × Unit))) =>
       ((g_slot_Read (v6.1, ()))).bind (fun (v7 : (SlotT × (Int × Unit))) =>
        bif ((v6.2.1 != 0) || ((v5.2.1 == 0) && ((!((v7.1.1 == (IntKind.wrap .i64 (v4.1.1 + 1))) && ((v7.1.2.1 == a.2.1) && true))) || (v7.2.1 != 0)))) then some false
        else bif ((!((v7.1.1 == (IntKind.wrap .i64 (v4.1.1 + 1))) && ((v7.1.2.1 == a.2.1) && true))) && ((!((v7.1.1 == v4.1.1) && ((v7.1.2.1 == v4.1.2.1) && true))) || (v7.2.1 != v4.2.1))) then some false
        else (
         loopO (fun (v8 : (Int × Unit)) =>
          bif (decide (v8.1 < (v3.1.1.length : Int))) then ((getI v3.1.1 v8.1)).bind (fun (v9 : FileT) =>
            ((g_disk_Read (v6.1, (v9.1, ())))).bind (fun (v10 : ((List Int) × (Int × Unit))) =>
             ((g_slot_Name ((IntKind.wrap .i64 (v4.1.1 + 1)), ()))).bind (fun (v11 : ByteArray) =>
              (
               bif (!(decide (v9.1 = v11))) then (
                 bif (v10.2.1 != 0) then some true
                 else ((getI v3.1.1 v8.1)).bind (fun (v12 : FileT) =>
                  some (!(decide ((mkS v10.1) = (mkS v12.2.1)))))).bind (fun (v13 : Bool) =>
                 some v13)
               else some false).bind (fun (v14 : Bool) =>
               bif v14 then ((some false).map .inr).map .inr
               else some (.inl ((IntKind.wrap .i64 (v8.1 + 1)), ()))))))
          else (some (.inl ())).map .inr) (0, ())).bind (eX (fun (v15 : Unit) =>
         ((g_slot_Write (v6.1, (((IntKind.wrap .i64 (v7.1.1 + 1)), (a.2.1, ())), ())))).bind (fun (v16 : (DiskT × (Int × Unit))) =>
          some ((v16.2.1 == 0) || (v16.2.1 == 6))))))))))))
noncomputable def tc9 : TCn := ⟨[shDisk, (.int .i64), (.int .u8), (.slice 1 (.int .i64))], [.bool], g_law14_SlotKeeps⟩
noncomputable def T9 := (9, tc9) :: T8
theorem t9 : Tbl Try.prog lbL T9 := Tbl.add t8 hn 6 9 tc9 (by kernel_rfl) (fun a => by kernel_rfl)
noncomputable def g_law14_SlotRow (a : ((List Int) × ((List Int) × Unit))) : Option Bool :=
 ((g_law14_awake ())).bind (fun (v1 : Bool) =>
  bif (!v1) then some false
  else bif ((decide ((a.1.length : Int) > 30)) || (decide ((a.2.1.length : Int) > 9))) then some true
  else (
   loopO (fun (v2 : (Int × ((List FileT) × (Int × (Int × (Bool × SlotT)))))) =>
    bif (decide (v2.1 < (a.1.length : Int))) then ((getI a.1 v2.1)).bind (fun (v3 : Int) =>
      ((g_slot_Write ((v2.2.1, (v2.2.2.1, ((IntKind.wrap .i64 ((Int.tmod (IntKind.wrap .i64 v3) 6) - 1)), (v2.2.2.2.2.1, ())))), (((IntKind.wrap .i64 (v2.2.2.2.2.2.1 + 1)), (v2.1, ())), ())))).bind (fun (v4 : (DiskT × (Int × Unit))) =>
       bif ((v4.2.1 != 0) && (v4.2.1 != 9)) then ((some false).map .inr).map .inr
       else ((g_disk_Back (v4.1, (a.2.1, ((-1), ()))))).bind (fun (v5 : (DiskT × (Int × Unit))) =>
        ((g_slot_Read (v5.1, ()))).bind (fun (v6 : (SlotT × (Int × Unit))) =>
         bif (((v5.2.1 != 0) || ((v6.2.1 != 0) && (v6.2.1 != 7))) || ((!((v6.1.1 == (IntKind.wrap .i64 (v2.2.2.2.2.2.1 + 1))) && ((v6.1.2.1 == v2.1) && true))) && ((v4.2.1 == 0) || (!((v6.1.1 == v2.2.2.2.2.2.1) && ((v6.1.2.1 == v2.2.2.2.2.2.2.1) && true)))))) then ((some false).map .inr).map .inr
         else some (.inl ((IntKind.wrap .i64 (v2.1 + 1)), (v5.1.1, (v5.1.2.1, (v5.1.2.2.1, (v5.1.2.2.2.1, v6.1))))))))))
    else (some (.inl v2.2)).map .inr) (0, ([], (60, ((-1), (false, (0, (0, ())))))))).bind (eX (fun (v7 : ((List FileT) × (Int × (Int × (Bool × SlotT))))) =>
   ((g_slot_Right (v7.2.2.2.2, ()))).bind (fun (v8 : Bool) =>
    some (v8 || ((v7.2.2.2.2.1 == 0) && ((v7.2.2.2.2.2.1 == 0) && true)))))))
noncomputable def tc10 : TCn := ⟨[(.slice 1 (.int .u8)), (.slice 1 (.int .i64))], [.bool], g_law14_SlotRow⟩
noncomputable def T10 := (10, tc10) :: T9
theorem t10 : Tbl Try.prog lbL T10 := Tbl.add t9 hn 6 10 tc10 (by kernel_rfl) (fun a => by kernel_rfl)
end Go.AI
