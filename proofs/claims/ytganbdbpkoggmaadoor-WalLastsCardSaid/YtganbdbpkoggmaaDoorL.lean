/- What the given functions come to, as functions of data with a kind. No condition. -/
import Derived.Test.YtganbdbpkoggmaaDoorS
import Derived.Test.YtganbdbpkoggmaaDoorProg
set_option linter.unusedVariables false
set_option linter.unusedSimpArgs false
namespace Go.AI
noncomputable section
open Go.Proofs
variable {tabI : Inhabited TabsD}
set_option linter.unusedVariables false
abbrev qeS := (ByteArray × (Int × Unit))
abbrev qo1 := (Int × (Int × Unit))
abbrev zc2 : Sh := (.cons (.int .i64) (.cons (.int .i64) .nil))
abbrev qc9 := (ByteArray × ((List Int) × (Int × Unit)))
abbrev ql0 : Sh := (.cons .str (.cons (.slice 1 (.int .u8)) (.cons (.int .i64) .nil)))
abbrev quU := (Int × (Int × (Bool × (Int × Unit))))
abbrev qp1 := ((List qc9) × (Int × (Int × (Bool × Unit))))
abbrev qj9 : Sh := (.cons (.slice 3 ql0) (.cons (.int .i64) (.cons (.int .i64) (.cons .bool .nil))))
abbrev qh6 := (qp1 × (Int × Unit))
abbrev qa8 := (Int × (Int × (Int × ((Int × (Int × (Int × (Int × qo1)))) × Unit))))
abbrev qb5 : Sh := (.cons (.int .i64) (.cons (.int .i64) (.cons (.int .i64) (.cons (.cons (.int .i64) (.cons (.int .i64) (.cons (.int .i64) (.cons (.int .i64) zc2)))) .nil))))
abbrev qy7 := (Int × ((List qa8) × (Bool × Unit)))
abbrev qxV : Sh := (.cons (.int .i64) (.cons (.slice 9 qb5) (.cons .bool .nil)))
abbrev qbD := (Int × (Int × (Int × (Int × (Int × ((List qa8) × Unit))))))
abbrev qmG : Sh := (.cons (.int .i64) (.cons (.int .i64) (.cons (.int .i64) (.cons (.int .i64) (.cons (.int .i64) (.cons (.slice 9 qb5) .nil))))))
abbrev vI : STy := .v (.int .i64)
def hnL : List (Nat × List (Nat × Hint)) := [(38, [(0, .j []), (1, .j [⟨.t 6, [vI]⟩])]),
(48, [(0, .j [⟨.t 3, [vI]⟩]), (1, .j [⟨.t 3, [vI]⟩, ⟨.t 9, [vI]⟩])]),
(17, [(1, .j []), (2, .j [⟨.t 3, [vI]⟩, ⟨.t 30, [vI]⟩])]),
(50, [(0, .j [⟨.t 3, [vI]⟩]), (1, .j [⟨.t 3, [vI]⟩, ⟨.t 11, [vI]⟩]), (4, .j []), (5, .j [⟨.t 6, [.r (.int .u8)]⟩]), (6, .j [⟨.t 6, [.r (.int .u8)]⟩, ⟨.t 27, [vI]⟩])]),
(27, [(2, .j [⟨.b 3 [], [.r ql0, vI, vI, .v .bool]⟩])]),
(41, [(2, .j [⟨.t 22, [.v .bool]⟩])]),
(12, [(1, .j [⟨.b 3 [], [.r ql0, vI, vI, .v .bool]⟩, ⟨.a 24 0, []⟩]), (2, .j [⟨.t 26, [vI]⟩, ⟨.b 3 [], [.r ql0, vI, vI, .v .bool]⟩, ⟨.a 24 1, []⟩]), (5, .j [⟨.t 10, [vI]⟩])]),
(10, [(1, .j []), (2, .j [⟨.t 5, [vI]⟩])]),
(100, [(0, .j [⟨.t 0, [.v (.int .u32)]⟩]), (1, .j [⟨.t 0, [.v (.int .u32)]⟩, ⟨.t 4, [vI]⟩]), (4, .j [⟨.t 0, [.v (.int .u32)]⟩])]),
(89, [(0, .j [⟨.t 5, [.v (.int .u32)]⟩]), (1, .j [⟨.t 5, [.v (.int .u32)]⟩, ⟨.t 12, [vI]⟩])]),
(45, [(2, .u 9)]),
(64, [(1, .j [⟨.t 7, [.v .bool]⟩]), (2, .j [⟨.t 7, [.v .bool]⟩, ⟨.t 25, [vI]⟩]), (9, .u 9)]),
(26, [(0, .j [⟨.t 4, [.r (.int .u8)]⟩]), (1, .j [⟨.t 4, [.r (.int .u8)]⟩, ⟨.t 11, [vI]⟩])]),
(33, [(0, .j [⟨.b 7 [], [vI, vI]⟩]), (1, .j [⟨.t 15, [vI]⟩, ⟨.b 7 [], [vI, vI]⟩])]),
(40, [(0, .j [⟨.t 9, [.r qb5]⟩, ⟨.t 10, [vI]⟩, ⟨.b 8 [], [vI, vI]⟩]), (1, .j [⟨.t 9, [.r qb5]⟩, ⟨.t 10, [vI]⟩, ⟨.b 8 [], [vI, vI]⟩])]),
(29, [(1, .j []), (2, .j [⟨.t 5, [vI]⟩])]),
(37, [(3, .j []), (4, .j []), (7, .j [⟨.t 43, [.v .bool]⟩]), (8, .j [⟨.t 43, [.v .bool]⟩]), (9, .j [⟨.t 43, [.v .bool]⟩]), (10, .j [⟨.t 43, [.v .bool]⟩]), (11, .j []), (18, .j [⟨.t 8, [vI]⟩]), (19, .j [⟨.t 8, [vI]⟩]), (20, .j []), (21, .j [])]),
(35, [(1, .j [⟨.t 5, [vI]⟩]), (2, .j [⟨.t 5, [vI]⟩])]),
(15, [(1, .j [⟨.t 3, [.r (.int .i64)]⟩]), (2, .j [⟨.t 3, [.r (.int .i64)]⟩, ⟨.t 13, [vI]⟩]), (5, .j [⟨.t 3, [.r (.int .i64)]⟩])]),
(25, [(1, .j [⟨.t 5, [.v .bool]⟩]), (2, .j [⟨.t 5, [.v .bool]⟩, ⟨.t 23, [vI]⟩]), (6, .j [⟨.t 5, [.v .bool]⟩])]),
(18, [(0, .j [⟨.t 4, [.r qxV]⟩]), (1, .j [⟨.t 4, [.r qxV]⟩, ⟨.t 5, [vI]⟩, ⟨.t 6, [vI]⟩, ⟨.t 18, [vI]⟩])]),
(7, [(1, .j [⟨.t 16, [.v .bool]⟩]), (2, .j [⟨.t 16, [.v .bool]⟩])]),
(8, [(1, .j [⟨.b 2 [], [vI, vI, vI, vI, vI, .v (.slice 9 qb5)]⟩, ⟨.b 3 [], [.v (.slice 3 ql0), vI, vI, .v .bool]⟩, ⟨.b 4 [], [vI, vI, vI, vI, vI, .v (.slice 9 qb5)]⟩, ⟨.b 5 [], [.v (.slice 3 ql0), vI, vI, .v .bool]⟩]), (2, .j [⟨.b 2 [], [vI, vI, vI, vI, vI, .v (.slice 9 qb5)]⟩, ⟨.b 3 [], [.v (.slice 3 ql0), vI, vI, .v .bool]⟩, ⟨.b 4 [], [vI, vI, vI, vI, vI, .v (.slice 9 qb5)]⟩, ⟨.b 5 [], [.v (.slice 3 ql0), vI, vI, .v .bool]⟩]), (5, .j [⟨.t 7, [vI]⟩, ⟨.t 8, [vI]⟩]), (6, .j [⟨.t 13, [vI]⟩, ⟨.b 3 [], [.v (.slice 3 ql0), vI, vI, .v .bool]⟩])]),
(6, [(1, .j [⟨.t 15, [.v .bool]⟩]), (2, .j [⟨.t 15, [.v .bool]⟩]), (5, .j [⟨.b 12 [], [vI, vI, vI, vI, vI, .v (.slice 9 qb5)]⟩])]),
(5, [(0, .j [⟨.b 1 [], [vI, vI, vI, vI, vI, .v (.slice 9 qb5)]⟩]), (1, .j [⟨.t 5, [vI]⟩, ⟨.b 1 [], [vI, vI, vI, vI, vI, .v (.slice 9 qb5)]⟩])]),
(11, [(0, .j [⟨.t 8, [.r qb5]⟩, ⟨.b 3 [], [vI, vI, vI, vI, vI, .v (.slice 9 qb5)]⟩, ⟨.b 6 [], [vI, vI, vI, vI, vI, .v (.slice 9 qb5)]⟩]), (1, .j [⟨.t 8, [.r qb5]⟩, ⟨.t 9, [vI]⟩, ⟨.b 3 [], [vI, vI, vI, vI, vI, .v (.slice 9 qb5)]⟩, ⟨.b 6 [], [vI, vI, vI, vI, vI, .v (.slice 9 qb5)]⟩])]),
(4, [(3, .j [⟨.b 10 [], [.v (.slice 3 ql0), vI, vI, .v .bool]⟩, ⟨.b 9 [], [vI, vI, vI, vI, vI, .v (.slice 9 qb5)]⟩]), (4, .j [⟨.t 13, [.r qb5]⟩, ⟨.t 14, [vI]⟩, ⟨.b 10 [], [.v (.slice 3 ql0), vI, vI, .v .bool]⟩, ⟨.b 9 [], [vI, vI, vI, vI, vI, .v (.slice 9 qb5)]⟩]), (7, .j [⟨.b 10 [], [.v (.slice 3 ql0), vI, vI, .v .bool]⟩]), (8, .j [⟨.t 13, [.r qb5]⟩, ⟨.b 10 [], [.v (.slice 3 ql0), vI, vI, .v .bool]⟩, ⟨.b 9 [], [vI, vI, vI, vI, vI, .v (.slice 9 qb5)]⟩]), (9, .j [⟨.t 13, [.r qb5]⟩, ⟨.t 15, [vI]⟩, ⟨.b 10 [], [.v (.slice 3 ql0), vI, vI, .v .bool]⟩, ⟨.b 9 [], [vI, vI, vI, vI, vI, .v (.slice 9 qb5)]⟩])]),
(68, [(0, .j [⟨.b 0 [], [.r (.int .u8)]⟩]), (1, .j [⟨.t 6, [vI]⟩, ⟨.b 0 [], [.r (.int .u8)]⟩])]),
(72, [(0, .j [⟨.t 9, [vI]⟩]), (1, .j [⟨.t 9, [vI]⟩, ⟨.t 10, [vI]⟩]), (4, .j [⟨.t 9, [vI]⟩, ⟨.t 10, [vI]⟩])]),
(44, [(0, .j []), (1, .j [⟨.t 8, [vI]⟩])]),
(20, [(2, .j [⟨.b 0 [], [.v (.slice 3 ql0), vI, vI, .v .bool, vI]⟩])]),
(22, [(1, .j [⟨.t 5, [vI]⟩, ⟨.t 0, [.r qb5]⟩]), (2, .j [⟨.t 5, [vI]⟩, ⟨.t 6, [vI]⟩, ⟨.t 0, [.r qb5]⟩]), (5, .j [⟨.t 5, [vI]⟩, ⟨.t 0, [.r qb5]⟩])]),
(88, [(0, .j [⟨.t 5, [.v (.int .u64)]⟩]), (1, .j [⟨.t 5, [.v (.int .u64)]⟩, ⟨.t 14, [vI]⟩])]),
(90, [(0, .j []), (1, .j [⟨.t 8, [vI]⟩])]),
(19, [(0, .j [⟨.t 3, [.r qb5]⟩]), (1, .j [⟨.t 3, [.r qb5]⟩, ⟨.t 8, [vI]⟩])])]
def hnOf : List (Nat × List (Nat × Hint))->Nat->List (Nat × Hint)
 | [], _ => []
 | (k, x) :: l, f => match Nat.beq k f with
  | true => x
  | false => hnOf l f
def hn : FuncId->List (Nat × Hint) := fun f => hnOf hnL f
def lbL : LbT := [(24, (.clone 9 72, qb5)), (30, (.clone 3 48, ql0)), (49, (.ins 3 48, ql0)), (66, (.del 3, ql0)), (77, (.grow 1 1, (.int .u8)))]
theorem tLib : Tbl Tryd.prog lbL [] [] := Tbl.libs fun f k sh h => by
 unfold lbL at h
 try simp only [qdI] at h
 split at h
 ·rename_i e
  cases h;rw [← Nat.eq_of_beq_eq_true e];exact qrB (t := 25) (tb := 4) (e := 61) (by unfold qnL; kernel_rfl) (by kernel_rfl) (by kernel_rfl)
 try simp only [qdI] at h
 split at h
 ·rename_i e
  cases h;rw [← Nat.eq_of_beq_eq_true e];exact qrB (t := 28) (tb := 4) (e := 78) (by unfold qnL; kernel_rfl) (by kernel_rfl) (by kernel_rfl)
 try simp only [qdI] at h
 split at h
 ·rename_i e
  cases h;rw [← Nat.eq_of_beq_eq_true e];exact insOk (t := 28) (ti := 3) (tb := 4) (e := 78) (fo := 75) (fr := 76) (by unfold qnL; kernel_rfl) (by unfold qpD; kernel_rfl) (by kernel_rfl) (by kernel_rfl) (by kernel_rfl) (by kernel_rfl)
 try simp only [qdI] at h
 split at h
 ·rename_i e
  cases h;rw [← Nat.eq_of_beq_eq_true e];exact delOk (t := 28) (ti := 3) (tb := 4) (e := 78) (bytes := 48) (by unfold qnL; kernel_rfl) (by kernel_rfl) (by kernel_rfl) (by kernel_rfl) (by kernel_rfl)
 try simp only [qdI] at h
 split at h
 ·rename_i e
  cases h;rw [← Nat.eq_of_beq_eq_true e];exact growOk (t := 42) (ti := 3) (tb := 4) (tp := 20) (ts := 9) (e := 5) (by unfold qnL; kernel_rfl) (by kernel_rfl) (by kernel_rfl) (by kernel_rfl)
 cases h
def g_cmp (a : ByteArray × (ByteArray × Unit)) : Option Int := some (zu3 a.1 a.2.1)
def tc91 : TCn := ⟨[.str, .str], [.int .i64], g_cmp⟩
def T91 := (91, tc91) :: ([] : List (FuncId × TCn))
abbrev Pw [Inhabited TabsD] := qc5 Tryd.prog
abbrev Tb [Inhabited TabsD] := Tbl Tryd.prog lbL ([] : List (FuncId × TCn))
theorem t91 (hT : Pw) : Tb T91 := Tbl.hand tLib 91 tc91 (cmpOk (ts := 9) (ti := 3) (fx := 101) (by unfold qnL; kernel_rfl) (by unfold cmpIs; kernel_rfl)) rfl
def ql1 (a : ((List Int) × Unit)) : Option (List Int) := qn7 [] a.1 1
def tc53 : TCn := ⟨[.slice 1 (.int .u8)], [.slice 1 (.int .u8)], ql1⟩
def T53 := (53, tc53) :: T91
theorem t53 (hT : Pw) : Tb T53 := Tbl.hand (t91 hT) 53 tc53 (zb9 (sh := (.int .u8)) (qrB (t := 42) (tb := 4) (e := 5) (s := 1) (bytes := 1) (by unfold qnL; kernel_rfl) (by kernel_rfl) (by kernel_rfl))) (by kernel_rfl)
def qi2 (a : (ByteArray × (ByteArray × Unit))) : Option Int :=
((g_cmp a)).bind (fun (v1 : Int) =>
 some v1)
def tc74 : TCn := ⟨[.str, .str], [(.int .i64)], qi2⟩
def T74 := (74, tc74) :: T53
theorem t74 (hT : Pw) : Tb T74 := Tbl.add (t53 hT) hn 8 74 tc74 (by kernel_rfl) (fun a => by kernel_rfl)
def qaU (a : (Int × Unit)) : Option Bool :=
some ((((decide (a.1 ≥ 97)) && (decide (a.1<=122))) || ((decide (a.1 ≥ 48)) && (decide (a.1<=57)))) || (a.1 == 46))
def tc63 : TCn := ⟨[(.int .u8)], [.bool], qaU⟩
def T63 := (63, tc63) :: T74
theorem t63 (hT : Pw) : Tb T63 := Tbl.add (t74 hT) hn 8 63 tc63 (by kernel_rfl) (fun a => by kernel_rfl)
def qs1 (a : (ByteArray × Unit)) : Option Bool :=
(
 qb9 (fun (v1 : (Int × Unit)) =>
 bif (decide (v1.1 < ((ByteArray.size a.1) : Int))) then ((idxB a.1 v1.1)).bind (fun (v2 : Int) =>
  ((qaU (v2, ()))).bind (fun (v3 : Bool) =>
   bif (!v3) then ((some false).map .inr).map .inr
   else some (.inl ((IntKind.wrap .i64 (v1.1 + 1)), ()))))
 else (some (.inl ())).map .inr) (0, ())).bind (eX (fun (v4 : Unit) =>
 some ((decide (((ByteArray.size a.1) : Int) ≥ 1)) && (decide (((ByteArray.size a.1) : Int)<=16)))))
def tc38 : TCn := ⟨[.str], [.bool], qs1⟩
def T38 := (38, tc38) :: T63
theorem t38 (hT : Pw) : Tb T38 := Tbl.add (t63 hT) hn 8 38 tc38 (by kernel_rfl) (fun a => by kernel_rfl)
def qaV (a : (qp1 × Unit)) : Option Int :=
(
 qb9 (fun (v1 : qo1) =>
 bif (decide (v1.2.1 < (a.1.1.length : Int))) then ((qj3 a.1.1 v1.2.1)).bind (fun (v2 : qc9) =>
  some (.inl ((IntKind.wrap .i64 (v1.1 + (v2.2.1.length : Int))), ((IntKind.wrap .i64 (v1.2.1 + 1)), ()))))
 else (some (v1.1, ())).map .inr) (0, (0, ()))).bind (fun (v3 : (Int × Unit)) =>
 some v3.1)
def tc48 : TCn := ⟨[qj9], [(.int .i64)], qaV⟩
def T48 := (48, tc48) :: T38
theorem t48 (hT : Pw) : Tb T48 := Tbl.add (t38 hT) hn 8 48 tc48 (by kernel_rfl) (fun a => by kernel_rfl)
def qi6 (a : (qp1 × Unit)) : Option Bool :=
bif ((((decide (a.1.2.1 < 0)) || (decide (a.1.2.1 > 65536))) || (decide (a.1.2.2.1 < (-1)))) || (decide ((a.1.1.length : Int) > 64))) then some false
else (
 qb9 (fun (v1 : qo1) =>
 bif (decide (v1.2.1 < (a.1.1.length : Int))) then ((qj3 a.1.1 v1.2.1)).bind (fun (v2 : qc9) =>
  ((qs1 (v2.1, ()))).bind (fun (v3 : Bool) =>
   (
   bif (!v3) then some true
   else (
    bif (decide (v1.2.1 > 0)) then ((qj3 a.1.1 (IntKind.wrap .i64 (v1.2.1 - 1)))).bind (fun (v4 : qc9) =>
     some (!(Go.Op.bytesLess (ByteArray.toList v4.1) (ByteArray.toList v2.1))))
    else some false).bind (fun (v5 : Bool) =>
    some v5)).bind (fun (v6 : Bool) =>
   bif (((v6 || (decide (v2.2.2.1 < 0))) || (decide (v2.2.2.1 > (v2.2.1.length : Int)))) || (decide ((v2.2.1.length : Int) > v1.1))) then ((some false).map .inr).map .inr
   else some (.inl ((IntKind.wrap .i64 (v1.1 - (v2.2.1.length : Int))), ((IntKind.wrap .i64 (v1.2.1 + 1)), ()))))))
 else (some (.inl ())).map .inr) (a.1.2.1, (0, ()))).bind (eX (fun (v7 : Unit) =>
 some true))
def tc17 : TCn := ⟨[qj9], [.bool], qi6⟩
def T17 := (17, tc17) :: T48
theorem t17 (hT : Pw) : Tb T17 := Tbl.add (t48 hT) hn 8 17 tc17 (by kernel_rfl) (fun a => by kernel_rfl)
def qi7 (a : (qp1 × ((List ByteArray) × Unit))) : Option Int :=
((qi6 (a.1, ()))).bind (fun (v1 : Bool) =>
 bif (!v1) then some 1
 else bif a.1.2.2.2.1 then some 9
 else (
 qb9 (fun (v2 : (Int × Unit)) =>
  bif (decide (v2.1 < (a.2.1.length : Int))) then ((qj3 a.2.1 v2.1)).bind (fun (v3 : ByteArray) =>
   ((qs1 (v3, ()))).bind (fun (v4 : Bool) =>
   bif (!v4) then ((bif (decide (v2.1 ≥ 0)) then some 1
    else some 0).map .inr).map .inr
   else some (.inl ((IntKind.wrap .i64 (v2.1 + 1)), ()))))
  else (some (.inl ())).map .inr) (0, ())).bind (eX (fun (v5 : Unit) =>
 some 0)))
def tc46 : TCn := ⟨[qj9, (.slice 1 .str)], [(.int .i64)], qi7⟩
def T46 := (46, tc46) :: T17
theorem t46 (hT : Pw) : Tb T46 := Tbl.add (t17 hT) hn 8 46 tc46 (by kernel_rfl) (fun a => by kernel_rfl)
def ql2 (a : (qp1 × (ByteArray × Unit))) : Option (Int × (Bool × Unit)) :=
(
 qb9 (fun (v1 : qo1) =>
 bif (decide (v1.1 < v1.2.1)) then ((qj3 a.1.1 (IntKind.wrap .i64 (Int.fdiv (IntKind.wrap .u64 (IntKind.wrap .i64 (v1.1 + v1.2.1))) (2 ^ 1))))).bind (fun (v2 : qc9) =>
  ((qi2 (v2.1, a.2))).bind (fun (v3 : Int) =>
   (
   bif (decide (v3 < 0)) then some ((IntKind.wrap .i64 ((IntKind.wrap .i64 (Int.fdiv (IntKind.wrap .u64 (IntKind.wrap .i64 (v1.1 + v1.2.1))) (2 ^ 1))) + 1)), v1.2)
   else some (v1.1, ((IntKind.wrap .i64 (Int.fdiv (IntKind.wrap .u64 (IntKind.wrap .i64 (v1.1 + v1.2.1))) (2 ^ 1))), ()))).bind (fun (v4 : qo1) =>
   some (.inl v4))))
 else (some (v1.1, ())).map .inr) (0, ((a.1.1.length : Int), ()))).bind (fun (v5 : (Int × Unit)) =>
 bif (decide (v5.1 < (a.1.1.length : Int))) then ((qj3 a.1.1 v5.1)).bind (fun (v6 : qc9) =>
  ((qi2 (v6.1, a.2))).bind (fun (v7 : Int) =>
  some (v5.1, ((v7 == 0), ()))))
 else some (v5.1, (false, ())))
def tc47 : TCn := ⟨[qj9, .str], [(.int .i64), .bool], ql2⟩
def T47 := (47, tc47) :: T46
theorem t47 (hT : Pw) : Tb T47 := Tbl.add (t46 hT) hn 8 47 tc47 (by kernel_rfl) (fun a => by kernel_rfl)
def qmH (a : (qc9 × (Int × Unit))) : Option qc9 :=
((qp0 a.1.2.1 0 (IntKind.wrap .i64 (a.1.2.2.1 + (if (false = true) then (if ((IntKind.wrap .i64 ((a.1.2.1.length : Int) - a.1.2.2.1)) > (if (true = true) then (if (0 > a.2.1) then 0 else a.2.1) else (if (0 < a.2.1) then 0 else a.2.1))) then (IntKind.wrap .i64 ((a.1.2.1.length : Int) - a.1.2.2.1)) else (if (true = true) then (if (0 > a.2.1) then 0 else a.2.1) else (if (0 < a.2.1) then 0 else a.2.1))) else (if ((IntKind.wrap .i64 ((a.1.2.1.length : Int) - a.1.2.2.1)) < (if (true = true) then (if (0 > a.2.1) then 0 else a.2.1) else (if (0 < a.2.1) then 0 else a.2.1))) then (IntKind.wrap .i64 ((a.1.2.1.length : Int) - a.1.2.2.1)) else (if (true = true) then (if (0 > a.2.1) then 0 else a.2.1) else (if (0 < a.2.1) then 0 else a.2.1)))))))).bind (fun (v1 : (List Int)) =>
 ((ql1 (v1, ()))).bind (fun (v2 : (List Int)) =>
 some (a.1.1, (v2, ((IntKind.wrap .i64 (a.1.2.2.1 + (if (false = true) then (if ((IntKind.wrap .i64 ((a.1.2.1.length : Int) - a.1.2.2.1)) > (if (true = true) then (if (0 > a.2.1) then 0 else a.2.1) else (if (0 < a.2.1) then 0 else a.2.1))) then (IntKind.wrap .i64 ((a.1.2.1.length : Int) - a.1.2.2.1)) else (if (true = true) then (if (0 > a.2.1) then 0 else a.2.1) else (if (0 < a.2.1) then 0 else a.2.1))) else (if ((IntKind.wrap .i64 ((a.1.2.1.length : Int) - a.1.2.2.1)) < (if (true = true) then (if (0 > a.2.1) then 0 else a.2.1) else (if (0 < a.2.1) then 0 else a.2.1))) then (IntKind.wrap .i64 ((a.1.2.1.length : Int) - a.1.2.2.1)) else (if (true = true) then (if (0 > a.2.1) then 0 else a.2.1) else (if (0 < a.2.1) then 0 else a.2.1)))))), ())))))
def tc31 : TCn := ⟨[ql0, (.int .i64)], [ql0], qmH⟩
def T31 := (31, tc31) :: T47
theorem t31 (hT : Pw) : Tb T31 := Tbl.add (t47 hT) hn 8 31 tc31 (by kernel_rfl) (fun a => by kernel_rfl)
def ql3 (a : ((List (List Int)) × Unit)) : Option (List Int) :=
(
 qb9 (fun (v1 : qo1) =>
 bif (decide (v1.2.1 < (a.1.length : Int))) then ((qj3 a.1 v1.2.1)).bind (fun (v2 : (List Int)) =>
  (
   bif (decide ((IntKind.wrap .i64 (v1.1 + (v2.length : Int))) < 0)) then none
   else some ()).bind (fun (v3 : Unit) =>
   some (.inl ((IntKind.wrap .i64 (v1.1 + (v2.length : Int))), ((IntKind.wrap .i64 (v1.2.1 + 1)), ())))))
 else (some (v1.1, ())).map .inr) (0, (0, ()))).bind (fun (v4 : (Int × Unit)) =>
 bif (growX v4.1 1) then (
  qb9 (fun (v5 : ((List Int) × (Int × Unit))) =>
  bif (decide (v5.2.1 < (a.1.length : Int))) then ((qj3 a.1 v5.2.1)).bind (fun (v6 : (List Int)) =>
   ((qn7 v5.1 v6 1)).bind (fun (v7 : (List Int)) =>
    some (.inl (v7, ((IntKind.wrap .i64 (v5.2.1 + 1)), ())))))
  else (some (v5.1, ())).map .inr) ([], (0, ()))).bind (fun (v8 : ((List Int) × Unit)) =>
  some v8.1)
 else none)
def tc50 : TCn := ⟨[(.slice 1 (.slice 1 (.int .u8)))], [(.slice 1 (.int .u8))], ql3⟩
def T50 := (50, tc50) :: T31
theorem t50 (hT : Pw) : Tb T50 := Tbl.add (t31 hT) hn 8 50 tc50 (by kernel_rfl) (fun a => by kernel_rfl)
def qp5 (a : (qp1 × (ByteArray × ((List Int) × Unit)))) : Option qh6 :=
((qi7 (a.1, ((a.2.1 :: []), ())))).bind (fun (v1 : Int) =>
 bif (v1 != 0) then some (a.1, (v1, ()))
 else ((ql2 (a.1, (a.2.1, ())))).bind (fun (v2 : (Int × (Bool × Unit))) =>
 ((qaV (a.1, ()))).bind (fun (v3 : Int) =>
  bif ((decide ((a.2.2.1.length : Int) > (IntKind.wrap .i64 (a.1.2.1 - v3)))) || ((!v2.2.1) && ((a.1.1.length : Int) == 64))) then some (a.1, (6, ()))
  else ((qn7 [] a.1.1 48)).bind (fun (v4 : (List qc9)) =>
  (
   bif (!v2.2.1) then ((insX v4 v2.1 ((a.2.1, ([], (0, ()))) :: []) 48)).bind (fun (v5 : (List qc9)) =>
    some (v5, a.1.2))
   else some (v4, a.1.2)).bind (fun (v6 : qp1) =>
   bif (inI v2.1 v6.1.length) then (v6.1[(Int.toNat v2.1)]?).bind (fun (v7 : qc9) =>
    ((ql3 ((v7.2.1 :: (a.2.2.1 :: [])), ()))).bind (fun (v8 : (List Int)) =>
    bif (inI v2.1 v6.1.length) then (v6.1[(Int.toNat v2.1)]?).bind (fun (v9 : qc9) =>
     bif (v6.2.2.1 == 0) then some (((List.set v6.1 (Int.toNat v2.1) (v9.1, (v8, v9.2.2))), (v6.2.1, (v6.2.2.1, (true, ())))), (9, ()))
     else bif (v6.2.2.1 == (-1)) then some (((List.set v6.1 (Int.toNat v2.1) (v9.1, (v8, v9.2.2))), v6.2), (0, ()))
     else some (((List.set v6.1 (Int.toNat v2.1) (v9.1, (v8, v9.2.2))), (v6.2.1, ((IntKind.wrap .i64 (v6.2.2.1 - 1)), v6.2.2.2))), (0, ())))
    else none))
   else none)))))
def tc27 : TCn := ⟨[qj9, .str, (.slice 1 (.int .u8))], [qj9, (.int .i64)], qp5⟩
def T27 := (27, tc27) :: T50
theorem t27 (hT : Pw) : Tb T27 := Tbl.add (t50 hT) hn 8 27 tc27 (by kernel_rfl) (fun a => by kernel_rfl)
def qaW (a : (qp1 × (ByteArray × Unit))) : Option ((List Int) × (Int × Unit)) :=
((qn7 [] (a.2.1 :: []) 16)).bind (fun (v1 : (List ByteArray)) =>
 ((qi7 (a.1, (v1, ())))).bind (fun (v2 : Int) =>
 bif (v2 != 0) then bif (v2 != 0) then some ([], (v2, ()))
  else ((qj3 a.1.1 0)).bind (fun (v3 : qc9) =>
  ((ql1 (v3.2.1, ()))).bind (fun (v4 : (List Int)) =>
   some (v4, (0, ()))))
 else ((ql2 a)).bind (fun (v5 : (Int × (Bool × Unit))) =>
  bif (!v5.2.1) then some ([], (7, ()))
  else ((qj3 a.1.1 v5.1)).bind (fun (v6 : qc9) =>
  ((ql1 (v6.2.1, ()))).bind (fun (v7 : (List Int)) =>
   some (v7, (0, ())))))))
def tc39 : TCn := ⟨[qj9, .str], [(.slice 1 (.int .u8)), (.int .i64)], qaW⟩
def T39 := (39, tc39) :: T27
theorem t39 (hT : Pw) : Tb T39 := Tbl.add (t27 hT) hn 8 39 tc39 (by kernel_rfl) (fun a => by kernel_rfl)
def qv0 (a : (qp1 × (ByteArray × Unit))) : Option qh6 :=
((qn7 [] (a.2.1 :: []) 16)).bind (fun (v1 : (List ByteArray)) =>
 ((qi7 (a.1, (v1, ())))).bind (fun (v2 : Int) =>
 bif (v2 != 0) then bif (v2 != 0) then some (a.1, (v2, ()))
  else bif (a.1.2.2.1 == 0) then some ((a.1.1, (a.1.2.1, (a.1.2.2.1, (true, ())))), (9, ()))
  else bif (a.1.2.2.1 == (-1)) then ((qn7 [] a.1.1 48)).bind (fun (v3 : (List qc9)) =>
   bif (inI 0 v3.length) then (v3[0]?).bind (fun (v4 : qc9) =>
    bif (inI 0 v3.length) then (v3[0]?).bind (fun (v5 : qc9) =>
     some (((List.set v3 0 (v5.1, (v5.2.1, ((v4.2.1.length : Int), ())))), a.1.2), (0, ())))
    else none)
   else none)
  else ((qn7 [] a.1.1 48)).bind (fun (v6 : (List qc9)) =>
  bif (inI 0 v6.length) then (v6[0]?).bind (fun (v7 : qc9) =>
   bif (inI 0 v6.length) then (v6[0]?).bind (fun (v8 : qc9) =>
    some (((List.set v6 0 (v8.1, (v8.2.1, ((v7.2.1.length : Int), ())))), (a.1.2.1, ((IntKind.wrap .i64 (a.1.2.2.1 - 1)), a.1.2.2.2))), (0, ())))
   else none)
  else none)
 else ((ql2 a)).bind (fun (v9 : (Int × (Bool × Unit))) =>
  bif (!v9.2.1) then some (a.1, (7, ()))
  else bif (a.1.2.2.1 == 0) then some ((a.1.1, (a.1.2.1, (a.1.2.2.1, (true, ())))), (9, ()))
  else bif (a.1.2.2.1 == (-1)) then ((qn7 [] a.1.1 48)).bind (fun (v10 : (List qc9)) =>
   bif (inI v9.1 v10.length) then (v10[(Int.toNat v9.1)]?).bind (fun (v11 : qc9) =>
    bif (inI v9.1 v10.length) then (v10[(Int.toNat v9.1)]?).bind (fun (v12 : qc9) =>
     some (((List.set v10 (Int.toNat v9.1) (v12.1, (v12.2.1, ((v11.2.1.length : Int), ())))), a.1.2), (0, ())))
    else none)
   else none)
  else ((qn7 [] a.1.1 48)).bind (fun (v13 : (List qc9)) =>
  bif (inI v9.1 v13.length) then (v13[(Int.toNat v9.1)]?).bind (fun (v14 : qc9) =>
   bif (inI v9.1 v13.length) then (v13[(Int.toNat v9.1)]?).bind (fun (v15 : qc9) =>
    some (((List.set v13 (Int.toNat v9.1) (v15.1, (v15.2.1, ((v14.2.1.length : Int), ())))), (a.1.2.1, ((IntKind.wrap .i64 (a.1.2.2.1 - 1)), a.1.2.2.2))), (0, ())))
   else none)
  else none))))
def tc28 : TCn := ⟨[qj9, .str], [qj9, (.int .i64)], qv0⟩
def T28 := (28, tc28) :: T39
theorem t28 (hT : Pw) : Tb T28 := Tbl.add (t39 hT) hn 8 28 tc28 (by kernel_rfl) (fun a => by kernel_rfl)
def qg4 (a : (qp1 × (ByteArray × Unit))) : Option qh6 :=
((qn7 [] (a.2.1 :: []) 16)).bind (fun (v1 : (List ByteArray)) =>
 ((qi7 (a.1, (v1, ())))).bind (fun (v2 : Int) =>
 bif (v2 != 0) then bif (v2 != 0) then some (a.1, (v2, ()))
  else bif (a.1.2.2.1 == 0) then some ((a.1.1, (a.1.2.1, (a.1.2.2.1, (true, ())))), (9, ()))
  else bif (a.1.2.2.1 == (-1)) then ((qn7 [] a.1.1 48)).bind (fun (v3 : (List qc9)) =>
   ((delX v3 0 (IntKind.wrap .i64 (0 + 1)))).bind (fun (v4 : (List qc9)) =>
   some ((v4, a.1.2), (0, ()))))
  else ((qn7 [] a.1.1 48)).bind (fun (v5 : (List qc9)) =>
  ((delX v5 0 (IntKind.wrap .i64 (0 + 1)))).bind (fun (v6 : (List qc9)) =>
   some ((v6, (a.1.2.1, ((IntKind.wrap .i64 (a.1.2.2.1 - 1)), a.1.2.2.2))), (0, ()))))
 else ((ql2 a)).bind (fun (v7 : (Int × (Bool × Unit))) =>
  bif (!v7.2.1) then some (a.1, (7, ()))
  else bif (a.1.2.2.1 == 0) then some ((a.1.1, (a.1.2.1, (a.1.2.2.1, (true, ())))), (9, ()))
  else bif (a.1.2.2.1 == (-1)) then ((qn7 [] a.1.1 48)).bind (fun (v8 : (List qc9)) =>
   ((delX v8 v7.1 (IntKind.wrap .i64 (v7.1 + 1)))).bind (fun (v9 : (List qc9)) =>
   some ((v9, a.1.2), (0, ()))))
  else ((qn7 [] a.1.1 48)).bind (fun (v10 : (List qc9)) =>
  ((delX v10 v7.1 (IntKind.wrap .i64 (v7.1 + 1)))).bind (fun (v11 : (List qc9)) =>
   some ((v11, (a.1.2.1, ((IntKind.wrap .i64 (a.1.2.2.1 - 1)), a.1.2.2.2))), (0, ())))))))
def tc43 : TCn := ⟨[qj9, .str], [qj9, (.int .i64)], qg4⟩
def T43 := (43, tc43) :: T28
theorem t43 (hT : Pw) : Tb T43 := Tbl.add (t28 hT) hn 8 43 tc43 (by kernel_rfl) (fun a => by kernel_rfl)
def qu2 (a : (qp1 × qeS)) : Option qh6 :=
((qn7 [] (a.2.1 :: []) 16)).bind (fun (v1 : (List ByteArray)) =>
 ((qi7 (a.1, (v1, ())))).bind (fun (v2 : Int) =>
 bif (v2 != 0) then bif (v2 != 0) then some (a.1, (v2, ()))
  else (
  bif (decide (a.2.2.1 < 0)) then some ((decide (a.2.2.1 < 0)), ())
  else ((qj3 a.1.1 0)).bind (fun (v3 : qc9) =>
   some ((decide (a.2.2.1 > (v3.2.1.length : Int))), ()))).bind (fun (v4 : (Bool × Unit)) =>
  bif v4.1 then some (a.1, (1, ()))
  else bif (a.1.2.2.1 == 0) then some ((a.1.1, (a.1.2.1, (a.1.2.2.1, (true, ())))), (9, ()))
  else bif (a.1.2.2.1 == (-1)) then ((qn7 [] a.1.1 48)).bind (fun (v5 : (List qc9)) =>
   bif (inI 0 v5.length) then (v5[0]?).bind (fun (v6 : qc9) =>
    ((qp0 v6.2.1 0 a.2.2.1)).bind (fun (v7 : (List Int)) =>
     ((ql1 (v7, ()))).bind (fun (v8 : (List Int)) =>
     (v5[0]?).bind (fun (v9 : qc9) =>
      (v5[0]?).bind (fun (v10 : qc9) =>
      ((List.set v5 0 (v10.1, (v8, v10.2.2)))[0]?).bind (fun (v11 : qc9) =>
       some (((List.set (List.set v5 0 (v10.1, (v8, v10.2.2))) 0 (v11.1, (v11.2.1, ((if (false = true) then (if (a.2.2.1 > v9.2.2.1) then a.2.2.1 else v9.2.2.1) else (if (a.2.2.1 < v9.2.2.1) then a.2.2.1 else v9.2.2.1)), ())))), a.1.2), (0, ()))))))))
   else none)
  else ((qn7 [] a.1.1 48)).bind (fun (v12 : (List qc9)) =>
   bif (inI 0 v12.length) then (v12[0]?).bind (fun (v13 : qc9) =>
    ((qp0 v13.2.1 0 a.2.2.1)).bind (fun (v14 : (List Int)) =>
    ((ql1 (v14, ()))).bind (fun (v15 : (List Int)) =>
     (v12[0]?).bind (fun (v16 : qc9) =>
     (v12[0]?).bind (fun (v17 : qc9) =>
      ((List.set v12 0 (v17.1, (v15, v17.2.2)))[0]?).bind (fun (v18 : qc9) =>
      some (((List.set (List.set v12 0 (v17.1, (v15, v17.2.2))) 0 (v18.1, (v18.2.1, ((if (false = true) then (if (a.2.2.1 > v16.2.2.1) then a.2.2.1 else v16.2.2.1) else (if (a.2.2.1 < v16.2.2.1) then a.2.2.1 else v16.2.2.1)), ())))), (a.1.2.1, ((IntKind.wrap .i64 (a.1.2.2.1 - 1)), a.1.2.2.2))), (0, ()))))))))
   else none))
 else ((ql2 (a.1, (a.2.1, ())))).bind (fun (v19 : (Int × (Bool × Unit))) =>
  bif (!v19.2.1) then some (a.1, (7, ()))
  else (
  bif (decide (a.2.2.1 < 0)) then some ((decide (a.2.2.1 < 0)), ())
  else ((qj3 a.1.1 v19.1)).bind (fun (v20 : qc9) =>
   some ((decide (a.2.2.1 > (v20.2.1.length : Int))), ()))).bind (fun (v21 : (Bool × Unit)) =>
  bif v21.1 then some (a.1, (1, ()))
  else bif (a.1.2.2.1 == 0) then some ((a.1.1, (a.1.2.1, (a.1.2.2.1, (true, ())))), (9, ()))
  else bif (a.1.2.2.1 == (-1)) then ((qn7 [] a.1.1 48)).bind (fun (v22 : (List qc9)) =>
   bif (inI v19.1 v22.length) then (v22[(Int.toNat v19.1)]?).bind (fun (v23 : qc9) =>
    ((qp0 v23.2.1 0 a.2.2.1)).bind (fun (v24 : (List Int)) =>
     ((ql1 (v24, ()))).bind (fun (v25 : (List Int)) =>
     (v22[(Int.toNat v19.1)]?).bind (fun (v26 : qc9) =>
      (v22[(Int.toNat v19.1)]?).bind (fun (v27 : qc9) =>
      ((List.set v22 (Int.toNat v19.1) (v27.1, (v25, v27.2.2)))[(Int.toNat v19.1)]?).bind (fun (v28 : qc9) =>
       some (((List.set (List.set v22 (Int.toNat v19.1) (v27.1, (v25, v27.2.2))) (Int.toNat v19.1) (v28.1, (v28.2.1, ((if (false = true) then (if (a.2.2.1 > v26.2.2.1) then a.2.2.1 else v26.2.2.1) else (if (a.2.2.1 < v26.2.2.1) then a.2.2.1 else v26.2.2.1)), ())))), a.1.2), (0, ()))))))))
   else none)
  else ((qn7 [] a.1.1 48)).bind (fun (v29 : (List qc9)) =>
   bif (inI v19.1 v29.length) then (v29[(Int.toNat v19.1)]?).bind (fun (v30 : qc9) =>
    ((qp0 v30.2.1 0 a.2.2.1)).bind (fun (v31 : (List Int)) =>
    ((ql1 (v31, ()))).bind (fun (v32 : (List Int)) =>
     (v29[(Int.toNat v19.1)]?).bind (fun (v33 : qc9) =>
     (v29[(Int.toNat v19.1)]?).bind (fun (v34 : qc9) =>
      ((List.set v29 (Int.toNat v19.1) (v34.1, (v32, v34.2.2)))[(Int.toNat v19.1)]?).bind (fun (v35 : qc9) =>
      some (((List.set (List.set v29 (Int.toNat v19.1) (v34.1, (v32, v34.2.2))) (Int.toNat v19.1) (v35.1, (v35.2.1, ((if (false = true) then (if (a.2.2.1 > v33.2.2.1) then a.2.2.1 else v33.2.2.1) else (if (a.2.2.1 < v33.2.2.1) then a.2.2.1 else v33.2.2.1)), ())))), (a.1.2.1, ((IntKind.wrap .i64 (a.1.2.2.1 - 1)), a.1.2.2.2))), (0, ()))))))))
   else none)))))
def tc41 : TCn := ⟨[qj9, .str, (.int .i64)], [qj9, (.int .i64)], qu2⟩
def T41 := (41, tc41) :: T43
theorem t41 (hT : Pw) : Tb T41 := Tbl.add (t43 hT) hn 8 41 tc41 (by kernel_rfl) (fun a => by kernel_rfl)
def qmI (a : (qp1 × ((List Int) × (Int × Unit)))) : Option qh6 :=
((qi6 (a.1, ()))).bind (fun (v1 : Bool) =>
 bif ((!v1) || (decide (a.2.2.1 < (-1)))) then some (a.1, (1, ()))
 else ((qn7 [] a.1.1 48)).bind (fun (v2 : (List qc9)) =>
 (
  qb9 (fun (v3 : (Int × qp1)) =>
  bif (decide (v3.1 < (v2.length : Int))) then bif (inI v3.1 v3.2.1.length) then (v3.2.1[(Int.toNat v3.1)]?).bind (fun (v4 : qc9) =>
    (
    bif (decide ((a.2.1.length : Int) > 0)) then bif (decide ((a.2.1.length : Int) = 0)) then none
     else ((qj3 a.2.1 (Int.tmod v3.1 (a.2.1.length : Int)))).bind (fun (v5 : Int) =>
     some (v5, ()))
    else some (0, ())).bind (fun (v6 : (Int × Unit)) =>
    ((qmH (v4, v6))).bind (fun (v7 : qc9) =>
     bif (inI v3.1 v3.2.1.length) then (v3.2.1[(Int.toNat v3.1)]?).bind (fun (v8 : qc9) =>
      some (.inl ((IntKind.wrap .i64 (v3.1 + 1)), ((List.set v3.2.1 (Int.toNat v3.1) v7), v3.2.2))))
     else none)))
   else none
  else (some v3.2).map .inr) (0, (v2, a.1.2))).bind (fun (v9 : qp1) =>
  some ((v9.1, (v9.2.1, (a.2.2.1, (false, ())))), (0, ())))))
def tc12 : TCn := ⟨[qj9, (.slice 1 (.int .i64)), (.int .i64)], [qj9, (.int .i64)], qmI⟩
def T12 := (12, tc12) :: T41
theorem t12 (hT : Pw) : Tb T12 := Tbl.add (t41 hT) hn 8 12 tc12 (by kernel_rfl) (fun a => by kernel_rfl)
def qw2 (a : (qp1 × (qp1 × Unit))) : Option Bool :=
bif (((((a.1.1.length : Int) != (a.2.1.1.length : Int)) || (a.1.2.1 != a.2.1.2.1)) || (a.1.2.2.1 != a.2.1.2.2.1)) || (a.1.2.2.2.1 != a.2.1.2.2.2.1)) then some false
else (
 qb9 (fun (v1 : (Int × Unit)) =>
 bif (decide (v1.1 < (a.1.1.length : Int))) then ((qj3 a.1.1 v1.1)).bind (fun (v2 : qc9) =>
  ((qj3 a.2.1.1 v1.1)).bind (fun (v3 : qc9) =>
   (
   bif ((!(decide (v2.1 = v3.1))) || (v2.2.2.1 != v3.2.2.1)) then some true
   else some (!(decide ((mkS v2.2.1) = (mkS v3.2.1))))).bind (fun (v4 : Bool) =>
   bif v4 then ((some false).map .inr).map .inr
   else some (.inl ((IntKind.wrap .i64 (v1.1 + 1)), ())))))
 else (some (.inl ())).map .inr) (0, ())).bind (eX (fun (v5 : Unit) =>
 some true))
def tc10 : TCn := ⟨[qj9, qj9], [.bool], qw2⟩
def T10 := (10, tc10) :: T12
theorem t10 (hT : Pw) : Tb T10 := Tbl.add (t12 hT) hn 8 10 tc10 (by kernel_rfl) (fun a => by kernel_rfl)
def qy8 (a : (Int × Unit)) : Option Int :=
(
 qb9 (fun (v1 : qo1) =>
 bif (decide (v1.2.1 < 4)) then (
  bif ((Go.bits Go.BinOp.and Go.IntKind.u32 v1.1 1) == 1) then some ((Go.bits Go.BinOp.xor Go.IntKind.u32 (Int.fdiv v1.1 (2 ^ 1)) 3988292384), ())
  else some ((Int.fdiv v1.1 (2 ^ 1)), ())).bind (fun (v2 : (Int × Unit)) =>
  some (.inl (v2.1, ((IntKind.wrap .i64 (v1.2.1 + 1)), ()))))
 else (some (v1.1, ())).map .inr) (a.1, (0, ()))).bind (fun (v3 : (Int × Unit)) =>
 some v3.1)
def tc100 : TCn := ⟨[(.int .u32)], [(.int .u32)], qy8⟩
def T100 := (100, tc100) :: T10
theorem t100 (hT : Pw) : Tb T100 := Tbl.add (t10 hT) hn 8 100 tc100 (by kernel_rfl) (fun a => by kernel_rfl)
def qy9 (a : (Int × ((List Int) × Unit))) : Option Int :=
(
 qb9 (fun (v1 : qo1) =>
 bif (decide (v1.2.1 < (a.2.1.length : Int))) then ((qj3 a.2.1 v1.2.1)).bind (fun (v2 : Int) =>
  ((qy8 ((Go.bits Go.BinOp.and Go.IntKind.u32 (Go.bits Go.BinOp.xor Go.IntKind.u32 v1.1 (IntKind.wrap .u32 v2)) 15), ()))).bind (fun (v3 : Int) =>
   ((qy8 ((Go.bits Go.BinOp.and Go.IntKind.u32 (Go.bits Go.BinOp.xor Go.IntKind.u32 v3 (Int.fdiv (Go.bits Go.BinOp.xor Go.IntKind.u32 v1.1 (IntKind.wrap .u32 v2)) (2 ^ 4))) 15), ()))).bind (fun (v4 : Int) =>
   some (.inl ((Go.bits Go.BinOp.xor Go.IntKind.u32 v4 (Int.fdiv (Go.bits Go.BinOp.xor Go.IntKind.u32 v3 (Int.fdiv (Go.bits Go.BinOp.xor Go.IntKind.u32 v1.1 (IntKind.wrap .u32 v2)) (2 ^ 4))) (2 ^ 4))), ((IntKind.wrap .i64 (v1.2.1 + 1)), ()))))))
 else (some (v1.1, ())).map .inr) ((Go.bits Go.BinOp.xor Go.IntKind.u32 (if ((Go.IntKind.signed Go.IntKind.u32) = true) then (-1) else (Go.IntKind.max Go.IntKind.u32)) a.1), (0, ()))).bind (fun (v5 : (Int × Unit)) =>
 some (Go.bits Go.BinOp.xor Go.IntKind.u32 (if ((Go.IntKind.signed Go.IntKind.u32) = true) then (-1) else (Go.IntKind.max Go.IntKind.u32)) v5.1))
def tc89 : TCn := ⟨[(.int .u32), (.slice 1 (.int .u8))], [(.int .u32)], qy9⟩
def T89 := (89, tc89) :: T100
theorem t89 (hT : Pw) : Tb T89 := Tbl.add (t100 hT) hn 8 89 tc89 (by kernel_rfl) (fun a => by kernel_rfl)
def qcA (a : ((List Int) × Unit)) : Option Int :=
((qy9 (0, a))).bind (fun (v1 : Int) =>
 some v1)
def tc69 : TCn := ⟨[(.slice 1 (.int .u8))], [(.int .u32)], qcA⟩
def T69 := (69, tc69) :: T89
theorem t69 (hT : Pw) : Tb T69 := Tbl.add (t89 hT) hn 8 69 tc69 (by kernel_rfl) (fun a => by kernel_rfl)
def qj0 (a : (qa8 × Unit)) : Option Bool :=
some ((((((decide (a.1.1 ≥ 1)) && (decide (a.1.1<=1000000))) && (decide (a.1.2.1 ≥ 1))) && (decide (a.1.2.1<=1000000000))) && (decide (a.1.2.2.1 ≥ 1))) && (decide (a.1.2.2.1<=6)))
def tc67 : TCn := ⟨[qb5], [.bool], qj0⟩
def T67 := (67, tc67) :: T69
theorem t67 (hT : Pw) : Tb T67 := Tbl.add (t69 hT) hn 8 67 tc67 (by kernel_rfl) (fun a => by kernel_rfl)
def qn1 (a : (qa8 × Unit)) : Option ((List Int) × (Int × Unit)) :=
((qj0 a)).bind (fun (v1 : Bool) =>
 bif (!v1) then some ([], (1, ()))
 else (
 qb9 (fun (v2 : (Int × ((List Int) × Unit))) =>
  bif (decide (v2.1 ≥ 0)) then bif (decide (0<=(IntKind.wrap .i64 (8 * v2.1)))) then ((qn7 v2.2.1 ((IntKind.wrap .u8 (Int.fdiv 72 (2 ^ (Min.min (Int.toNat (IntKind.wrap .i64 (8 * v2.1))) 64)))) :: []) 1)).bind (fun (v3 : (List Int)) =>
   some (.inl ((IntKind.wrap .i64 (v2.1 - 1)), (v3, ()))))
  else none
  else (some v2.2).map .inr) ((IntKind.wrap .i64 (4 - 1)), ([], ()))).bind (fun (v4 : ((List Int) × Unit)) =>
 (
  qb9 (fun (v5 : (Int × ((List Int) × Unit))) =>
  bif (decide (v5.1 ≥ 0)) then bif (decide (0<=(IntKind.wrap .i64 (8 * v5.1)))) then ((qn7 v5.2.1 ((IntKind.wrap .u8 (Int.fdiv (IntKind.wrap .u64 a.1.1) (2 ^ (Min.min (Int.toNat (IntKind.wrap .i64 (8 * v5.1))) 64)))) :: []) 1)).bind (fun (v6 : (List Int)) =>
    some (.inl ((IntKind.wrap .i64 (v5.1 - 1)), (v6, ()))))
   else none
  else (some v5.2).map .inr) ((IntKind.wrap .i64 (4 - 1)), v4)).bind (fun (v7 : ((List Int) × Unit)) =>
  (
  qb9 (fun (v8 : (Int × ((List Int) × Unit))) =>
   bif (decide (v8.1 ≥ 0)) then bif (decide (0<=(IntKind.wrap .i64 (8 * v8.1)))) then ((qn7 v8.2.1 ((IntKind.wrap .u8 (Int.fdiv (IntKind.wrap .u64 a.1.2.1) (2 ^ (Min.min (Int.toNat (IntKind.wrap .i64 (8 * v8.1))) 64)))) :: []) 1)).bind (fun (v9 : (List Int)) =>
    some (.inl ((IntKind.wrap .i64 (v8.1 - 1)), (v9, ()))))
   else none
   else (some v8.2).map .inr) ((IntKind.wrap .i64 (8 - 1)), v7)).bind (fun (v10 : ((List Int) × Unit)) =>
  (
   qb9 (fun (v11 : (Int × ((List Int) × Unit))) =>
   bif (decide (v11.1 ≥ 0)) then bif (decide (0<=(IntKind.wrap .i64 (8 * v11.1)))) then ((qn7 v11.2.1 ((IntKind.wrap .u8 (Int.fdiv (IntKind.wrap .u64 a.1.2.2.1) (2 ^ (Min.min (Int.toNat (IntKind.wrap .i64 (8 * v11.1))) 64)))) :: []) 1)).bind (fun (v12 : (List Int)) =>
     some (.inl ((IntKind.wrap .i64 (v11.1 - 1)), (v12, ()))))
    else none
   else (some v11.2).map .inr) ((IntKind.wrap .i64 (4 - 1)), v10)).bind (fun (v13 : ((List Int) × Unit)) =>
   (
   qb9 (fun (v14 : (Int × ((List Int) × Unit))) =>
    bif (decide (v14.1 ≥ 0)) then bif (decide (0<=(IntKind.wrap .i64 (8 * v14.1)))) then ((qn7 v14.2.1 ((IntKind.wrap .u8 (Int.fdiv (IntKind.wrap .u64 a.1.2.2.2.1.1) (2 ^ (Min.min (Int.toNat (IntKind.wrap .i64 (8 * v14.1))) 64)))) :: []) 1)).bind (fun (v15 : (List Int)) =>
     some (.inl ((IntKind.wrap .i64 (v14.1 - 1)), (v15, ()))))
    else none
    else (some v14.2).map .inr) ((IntKind.wrap .i64 (8 - 1)), v13)).bind (fun (v16 : ((List Int) × Unit)) =>
   (
    qb9 (fun (v17 : (Int × ((List Int) × Unit))) =>
    bif (decide (v17.1 ≥ 0)) then bif (decide (0<=(IntKind.wrap .i64 (8 * v17.1)))) then ((qn7 v17.2.1 ((IntKind.wrap .u8 (Int.fdiv (IntKind.wrap .u64 a.1.2.2.2.1.2.1) (2 ^ (Min.min (Int.toNat (IntKind.wrap .i64 (8 * v17.1))) 64)))) :: []) 1)).bind (fun (v18 : (List Int)) =>
      some (.inl ((IntKind.wrap .i64 (v17.1 - 1)), (v18, ()))))
     else none
    else (some v17.2).map .inr) ((IntKind.wrap .i64 (8 - 1)), v16)).bind (fun (v19 : ((List Int) × Unit)) =>
    (
    qb9 (fun (v20 : (Int × ((List Int) × Unit))) =>
     bif (decide (v20.1 ≥ 0)) then bif (decide (0<=(IntKind.wrap .i64 (8 * v20.1)))) then ((qn7 v20.2.1 ((IntKind.wrap .u8 (Int.fdiv (IntKind.wrap .u64 a.1.2.2.2.1.2.2.1) (2 ^ (Min.min (Int.toNat (IntKind.wrap .i64 (8 * v20.1))) 64)))) :: []) 1)).bind (fun (v21 : (List Int)) =>
      some (.inl ((IntKind.wrap .i64 (v20.1 - 1)), (v21, ()))))
     else none
     else (some v20.2).map .inr) ((IntKind.wrap .i64 (8 - 1)), v19)).bind (fun (v22 : ((List Int) × Unit)) =>
    (
     qb9 (fun (v23 : (Int × ((List Int) × Unit))) =>
     bif (decide (v23.1 ≥ 0)) then bif (decide (0<=(IntKind.wrap .i64 (8 * v23.1)))) then ((qn7 v23.2.1 ((IntKind.wrap .u8 (Int.fdiv (IntKind.wrap .u64 a.1.2.2.2.1.2.2.2.1) (2 ^ (Min.min (Int.toNat (IntKind.wrap .i64 (8 * v23.1))) 64)))) :: []) 1)).bind (fun (v24 : (List Int)) =>
       some (.inl ((IntKind.wrap .i64 (v23.1 - 1)), (v24, ()))))
      else none
     else (some v23.2).map .inr) ((IntKind.wrap .i64 (8 - 1)), v22)).bind (fun (v25 : ((List Int) × Unit)) =>
     (
     qb9 (fun (v26 : (Int × ((List Int) × Unit))) =>
      bif (decide (v26.1 ≥ 0)) then bif (decide (0<=(IntKind.wrap .i64 (8 * v26.1)))) then ((qn7 v26.2.1 ((IntKind.wrap .u8 (Int.fdiv (IntKind.wrap .u64 a.1.2.2.2.1.2.2.2.2.1) (2 ^ (Min.min (Int.toNat (IntKind.wrap .i64 (8 * v26.1))) 64)))) :: []) 1)).bind (fun (v27 : (List Int)) =>
       some (.inl ((IntKind.wrap .i64 (v26.1 - 1)), (v27, ()))))
      else none
      else (some v26.2).map .inr) ((IntKind.wrap .i64 (8 - 1)), v25)).bind (fun (v28 : ((List Int) × Unit)) =>
     (
      qb9 (fun (v29 : (Int × ((List Int) × Unit))) =>
      bif (decide (v29.1 ≥ 0)) then bif (decide (0<=(IntKind.wrap .i64 (8 * v29.1)))) then ((qn7 v29.2.1 ((IntKind.wrap .u8 (Int.fdiv (IntKind.wrap .u64 a.1.2.2.2.1.2.2.2.2.2.1) (2 ^ (Min.min (Int.toNat (IntKind.wrap .i64 (8 * v29.1))) 64)))) :: []) 1)).bind (fun (v30 : (List Int)) =>
        some (.inl ((IntKind.wrap .i64 (v29.1 - 1)), (v30, ()))))
       else none
      else (some v29.2).map .inr) ((IntKind.wrap .i64 (8 - 1)), v28)).bind (fun (v31 : ((List Int) × Unit)) =>
      ((qcA v31)).bind (fun (v32 : Int) =>
      ((qn7 v31.1 ((IntKind.wrap .u8 v32) :: ((IntKind.wrap .u8 (Int.fdiv v32 (2 ^ 8))) :: ((IntKind.wrap .u8 (Int.fdiv v32 (2 ^ 16))) :: ((IntKind.wrap .u8 (Int.fdiv v32 (2 ^ 24))) :: [])))) 1)).bind (fun (v33 : (List Int)) =>
       some (v33, (0, ())))))))))))))))
def tc45 : TCn := ⟨[qb5], [(.slice 1 (.int .u8)), (.int .i64)], qn1⟩
def T45 := (45, tc45) :: T67
theorem t45 (hT : Pw) : Tb T45 := Tbl.add (t67 hT) hn 8 45 tc45 (by kernel_rfl) (fun a => by kernel_rfl)
def qn2 (a : ((List Int) × Unit)) : Option (qa8 × (Int × Unit)) :=
bif ((a.1.length : Int) != 72) then some ((0, (0, (0, ((0, (0, (0, (0, (0, (0, ())))))), ())))), (2, ()))
else ((qp0 a.1 0 68)).bind (fun (v1 : (List Int)) =>
 ((qp0 v1 0 4)).bind (fun (v2 : (List Int)) =>
 (
  qb9 (fun (v3 : qo1) =>
  bif (decide (v3.2.1 < (v2.length : Int))) then ((qj3 v2 v3.2.1)).bind (fun (v4 : Int) =>
   some (.inl ((Go.bits Go.BinOp.or Go.IntKind.u64 (IntKind.wrap .u64 (v3.1 * (2 ^ 8))) (IntKind.wrap .u64 v4)), ((IntKind.wrap .i64 (v3.2.1 + 1)), ()))))
  else (some (v3.1, ())).map .inr) (0, (0, ()))).bind (fun (v5 : (Int × Unit)) =>
  ((qp0 v1 4 (v1.length : Int))).bind (fun (v6 : (List Int)) =>
  ((qp0 a.1 0 68)).bind (fun (v7 : (List Int)) =>
   ((qcA (v7, ()))).bind (fun (v8 : Int) =>
   ((qp0 a.1 68 (a.1.length : Int))).bind (fun (v9 : (List Int)) =>
    (
    qb9 (fun (v10 : (Bool × (Int × Unit))) =>
     bif (decide (v10.2.1 < (v9.length : Int))) then ((qj3 v9 v10.2.1)).bind (fun (v11 : Int) =>
      (
      bif v10.1 then bif (decide (0<=(IntKind.wrap .i64 (8 * v10.2.1)))) then some (v11 == (IntKind.wrap .u8 (Int.fdiv v8 (2 ^ (Min.min (Int.toNat (IntKind.wrap .i64 (8 * v10.2.1))) 32)))))
       else none
      else some false).bind (fun (v12 : Bool) =>
      some (.inl (v12, ((IntKind.wrap .i64 (v10.2.1 + 1)), ())))))
     else (some (v10.1, ())).map .inr) (true, (0, ()))).bind (fun (v13 : (Bool × Unit)) =>
    bif (v5.1 != 72) then some ((0, (0, (0, ((0, (0, (0, (0, (0, (0, ())))))), ())))), (2, ()))
    else bif (!v13.1) then some ((0, (0, (0, ((0, (0, (0, (0, (0, (0, ())))))), ())))), (10, ()))
    else ((qp0 v6 0 4)).bind (fun (v14 : (List Int)) =>
     (
     qb9 (fun (v15 : qo1) =>
      bif (decide (v15.2.1 < (v14.length : Int))) then ((qj3 v14 v15.2.1)).bind (fun (v16 : Int) =>
       some (.inl ((Go.bits Go.BinOp.or Go.IntKind.u64 (IntKind.wrap .u64 (v15.1 * (2 ^ 8))) (IntKind.wrap .u64 v16)), ((IntKind.wrap .i64 (v15.2.1 + 1)), ()))))
      else (some (v15.1, ())).map .inr) (0, (0, ()))).bind (fun (v17 : (Int × Unit)) =>
     ((qp0 v6 4 (v6.length : Int))).bind (fun (v18 : (List Int)) =>
      ((qp0 v18 0 8)).bind (fun (v19 : (List Int)) =>
      (
       qb9 (fun (v20 : qo1) =>
       bif (decide (v20.2.1 < (v19.length : Int))) then ((qj3 v19 v20.2.1)).bind (fun (v21 : Int) =>
        some (.inl ((Go.bits Go.BinOp.or Go.IntKind.u64 (IntKind.wrap .u64 (v20.1 * (2 ^ 8))) (IntKind.wrap .u64 v21)), ((IntKind.wrap .i64 (v20.2.1 + 1)), ()))))
       else (some (v20.1, ())).map .inr) (0, (0, ()))).bind (fun (v22 : (Int × Unit)) =>
       ((qp0 v18 8 (v18.length : Int))).bind (fun (v23 : (List Int)) =>
       ((qp0 v23 0 4)).bind (fun (v24 : (List Int)) =>
        (
        qb9 (fun (v25 : qo1) =>
         bif (decide (v25.2.1 < (v24.length : Int))) then ((qj3 v24 v25.2.1)).bind (fun (v26 : Int) =>
          some (.inl ((Go.bits Go.BinOp.or Go.IntKind.u64 (IntKind.wrap .u64 (v25.1 * (2 ^ 8))) (IntKind.wrap .u64 v26)), ((IntKind.wrap .i64 (v25.2.1 + 1)), ()))))
         else (some (v25.1, ())).map .inr) (0, (0, ()))).bind (fun (v27 : (Int × Unit)) =>
        ((qp0 v23 4 (v23.length : Int))).bind (fun (v28 : (List Int)) =>
         ((qp0 v28 0 8)).bind (fun (v29 : (List Int)) =>
         (
          qb9 (fun (v30 : qo1) =>
          bif (decide (v30.2.1 < (v29.length : Int))) then ((qj3 v29 v30.2.1)).bind (fun (v31 : Int) =>
           some (.inl ((Go.bits Go.BinOp.or Go.IntKind.u64 (IntKind.wrap .u64 (v30.1 * (2 ^ 8))) (IntKind.wrap .u64 v31)), ((IntKind.wrap .i64 (v30.2.1 + 1)), ()))))
          else (some (v30.1, ())).map .inr) (0, (0, ()))).bind (fun (v32 : (Int × Unit)) =>
          ((qp0 v28 8 (v28.length : Int))).bind (fun (v33 : (List Int)) =>
          ((qp0 v33 0 8)).bind (fun (v34 : (List Int)) =>
           (
           qb9 (fun (v35 : qo1) =>
            bif (decide (v35.2.1 < (v34.length : Int))) then ((qj3 v34 v35.2.1)).bind (fun (v36 : Int) =>
             some (.inl ((Go.bits Go.BinOp.or Go.IntKind.u64 (IntKind.wrap .u64 (v35.1 * (2 ^ 8))) (IntKind.wrap .u64 v36)), ((IntKind.wrap .i64 (v35.2.1 + 1)), ()))))
            else (some (v35.1, ())).map .inr) (0, (0, ()))).bind (fun (v37 : (Int × Unit)) =>
           ((qp0 v33 8 (v33.length : Int))).bind (fun (v38 : (List Int)) =>
            ((qp0 v38 0 8)).bind (fun (v39 : (List Int)) =>
            (
             qb9 (fun (v40 : qo1) =>
             bif (decide (v40.2.1 < (v39.length : Int))) then ((qj3 v39 v40.2.1)).bind (fun (v41 : Int) =>
              some (.inl ((Go.bits Go.BinOp.or Go.IntKind.u64 (IntKind.wrap .u64 (v40.1 * (2 ^ 8))) (IntKind.wrap .u64 v41)), ((IntKind.wrap .i64 (v40.2.1 + 1)), ()))))
             else (some (v40.1, ())).map .inr) (0, (0, ()))).bind (fun (v42 : (Int × Unit)) =>
             ((qp0 v38 8 (v38.length : Int))).bind (fun (v43 : (List Int)) =>
             ((qp0 v43 0 8)).bind (fun (v44 : (List Int)) =>
              (
              qb9 (fun (v45 : qo1) =>
               bif (decide (v45.2.1 < (v44.length : Int))) then ((qj3 v44 v45.2.1)).bind (fun (v46 : Int) =>
                some (.inl ((Go.bits Go.BinOp.or Go.IntKind.u64 (IntKind.wrap .u64 (v45.1 * (2 ^ 8))) (IntKind.wrap .u64 v46)), ((IntKind.wrap .i64 (v45.2.1 + 1)), ()))))
               else (some (v45.1, ())).map .inr) (0, (0, ()))).bind (fun (v47 : (Int × Unit)) =>
              ((qp0 v43 8 (v43.length : Int))).bind (fun (v48 : (List Int)) =>
               ((qp0 v48 0 8)).bind (fun (v49 : (List Int)) =>
               (
                qb9 (fun (v50 : qo1) =>
                bif (decide (v50.2.1 < (v49.length : Int))) then ((qj3 v49 v50.2.1)).bind (fun (v51 : Int) =>
                 some (.inl ((Go.bits Go.BinOp.or Go.IntKind.u64 (IntKind.wrap .u64 (v50.1 * (2 ^ 8))) (IntKind.wrap .u64 v51)), ((IntKind.wrap .i64 (v50.2.1 + 1)), ()))))
                else (some (v50.1, ())).map .inr) (0, (0, ()))).bind (fun (v52 : (Int × Unit)) =>
                ((qp0 v48 8 (v48.length : Int))).bind (fun (v53 : (List Int)) =>
                ((qp0 v53 0 8)).bind (fun (v54 : (List Int)) =>
                 (
                 qb9 (fun (v55 : qo1) =>
                  bif (decide (v55.2.1 < (v54.length : Int))) then ((qj3 v54 v55.2.1)).bind (fun (v56 : Int) =>
                   some (.inl ((Go.bits Go.BinOp.or Go.IntKind.u64 (IntKind.wrap .u64 (v55.1 * (2 ^ 8))) (IntKind.wrap .u64 v56)), ((IntKind.wrap .i64 (v55.2.1 + 1)), ()))))
                  else (some (v55.1, ())).map .inr) (0, (0, ()))).bind (fun (v57 : (Int × Unit)) =>
                 ((qp0 v53 8 (v53.length : Int))).bind (fun (v58 : (List Int)) =>
                  ((qj0 (((IntKind.wrap .i64 v17.1), ((IntKind.wrap .i64 v22.1), ((IntKind.wrap .i64 v27.1), (((IntKind.wrap .i64 v32.1), ((IntKind.wrap .i64 v37.1), ((IntKind.wrap .i64 v42.1), ((IntKind.wrap .i64 v47.1), ((IntKind.wrap .i64 v52.1), ((IntKind.wrap .i64 v57.1), ())))))), ())))), ()))).bind (fun (v59 : Bool) =>
                  bif (!v59) then some ((0, (0, (0, ((0, (0, (0, (0, (0, (0, ())))))), ())))), (2, ()))
                  else some (((IntKind.wrap .i64 v17.1), ((IntKind.wrap .i64 v22.1), ((IntKind.wrap .i64 v27.1), (((IntKind.wrap .i64 v32.1), ((IntKind.wrap .i64 v37.1), ((IntKind.wrap .i64 v42.1), ((IntKind.wrap .i64 v47.1), ((IntKind.wrap .i64 v52.1), ((IntKind.wrap .i64 v57.1), ())))))), ())))), (0, ()))))))))))))))))))))))))))))))))))))))
def tc64 : TCn := ⟨[(.slice 1 (.int .u8))], [qb5, (.int .i64)], qn2⟩
def T64 := (64, tc64) :: T45
theorem t64 (hT : Pw) : Tb T64 := Tbl.add (t45 hT) hn 8 64 tc64 (by kernel_rfl) (fun a => by kernel_rfl)
def qu3 (a : ((List qa8) × Unit)) : Option ((List Int) × (Int × Unit)) :=
(
 qb9 (fun (v1 : ((List Int) × (Int × Unit))) =>
 bif (decide (v1.2.1 < (a.1.length : Int))) then ((qj3 a.1 v1.2.1)).bind (fun (v2 : qa8) =>
  ((qn1 (v2, ()))).bind (fun (v3 : ((List Int) × (Int × Unit))) =>
   bif (v3.2.1 != 0) then ((some ([], v3.2)).map .inr).map .inr
   else ((qn7 v1.1 v3.1 1)).bind (fun (v4 : (List Int)) =>
   some (.inl (v4, ((IntKind.wrap .i64 (v1.2.1 + 1)), ()))))))
 else (some (.inl (v1.1, ()))).map .inr) ([], (0, ()))).bind (eX (fun (v5 : ((List Int) × Unit)) =>
 some (v5.1, (0, ()))))
def tc26 : TCn := ⟨[(.slice 9 qb5)], [(.slice 1 (.int .u8)), (.int .i64)], qu3⟩
def T26 := (26, tc26) :: T64
theorem t26 (hT : Pw) : Tb T26 := Tbl.add (t64 hT) hn 8 26 tc26 (by kernel_rfl) (fun a => by kernel_rfl)
def qcW (a : ((List qa8) × qo1)) : Option Bool :=
(
 qb9 (fun (v1 : (Int × qo1)) =>
 bif (decide (v1.1 < (a.1.length : Int))) then ((qj3 a.1 v1.1)).bind (fun (v2 : qa8) =>
  ((qj0 (v2, ()))).bind (fun (v3 : Bool) =>
   bif (((!v3) || (v2.2.1 != v1.2.1)) || (decide (v2.1 < v1.2.2.1))) then ((some false).map .inr).map .inr
   else some (.inl ((IntKind.wrap .i64 (v1.1 + 1)), ((IntKind.wrap .i64 (v2.2.1 + 1)), (v2.1, ()))))))
 else (some (.inl v1.2)).map .inr) (0, a.2)).bind (eX (fun (v4 : qo1) =>
 some true))
def tc33 : TCn := ⟨[(.slice 9 qb5), (.int .i64), (.int .i64)], [.bool], qcW⟩
def T33 := (33, tc33) :: T26
theorem t33 (hT : Pw) : Tb T33 := Tbl.add (t26 hT) hn 8 33 tc33 (by kernel_rfl) (fun a => by kernel_rfl)
def qaX (a : ((List Int) × qo1)) : Option ((List qa8) × (Int × Unit)) :=
(
 qb9 (fun (v1 : ((List qa8) × (Int × qo1))) =>
 bif (decide ((IntKind.wrap .i64 ((a.1.length : Int) - v1.2.1)) ≥ 72)) then ((qp0 a.1 v1.2.1 (IntKind.wrap .i64 (v1.2.1 + 72)))).bind (fun (v2 : (List Int)) =>
  ((qn2 (v2, ()))).bind (fun (v3 : (qa8 × (Int × Unit))) =>
   bif (v3.2.1 != 0) then (some v1).map .inr
   else ((qj0 (v3.1, ()))).bind (fun (v4 : Bool) =>
   bif (((!v4) || (v3.1.2.1 != v1.2.2.1)) || (decide (v3.1.1 < v1.2.2.2.1))) then (some v1).map .inr
   else ((qn7 v1.1 (v3.1 :: []) 72)).bind (fun (v5 : (List qa8)) =>
    some (.inl (v5, ((IntKind.wrap .i64 (v1.2.1 + 72)), ((IntKind.wrap .i64 (v3.1.2.1 + 1)), (v3.1.1, ())))))))))
 else (some v1).map .inr) ([], (0, a.2))).bind (fun (v6 : ((List qa8) × (Int × qo1))) =>
 some (v6.1, (v6.2.1, ())))
def tc40 : TCn := ⟨[(.slice 1 (.int .u8)), (.int .i64), (.int .i64)], [(.slice 9 qb5), (.int .i64)], qaX⟩
def T40 := (40, tc40) :: T33
theorem t40 (hT : Pw) : Tb T40 := Tbl.add (t33 hT) hn 8 40 tc40 (by kernel_rfl) (fun a => by kernel_rfl)
def ql4 (a : ((List qa8) × ((List qa8) × Unit))) : Option Bool :=
bif ((a.1.length : Int) != (a.2.1.length : Int)) then some false
else (
 qb9 (fun (v1 : (Int × Unit)) =>
 bif (decide (v1.1 < (a.1.length : Int))) then ((qj3 a.1 v1.1)).bind (fun (v2 : qa8) =>
  ((qj3 a.2.1 v1.1)).bind (fun (v3 : qa8) =>
   bif (!((v2.1 == v3.1) && ((v2.2.1 == v3.2.1) && ((v2.2.2.1 == v3.2.2.1) && ((v2.2.2.2.1.1 == v3.2.2.2.1.1) && ((v2.2.2.2.1.2.1 == v3.2.2.2.1.2.1) && ((v2.2.2.2.1.2.2.1 == v3.2.2.2.1.2.2.1) && ((v2.2.2.2.1.2.2.2.1 == v3.2.2.2.1.2.2.2.1) && ((v2.2.2.2.1.2.2.2.2.1 == v3.2.2.2.1.2.2.2.2.1) && ((v2.2.2.2.1.2.2.2.2.2.1 == v3.2.2.2.1.2.2.2.2.2.1) && true)))))))))) then ((some false).map .inr).map .inr
   else some (.inl ((IntKind.wrap .i64 (v1.1 + 1)), ()))))
 else (some (.inl ())).map .inr) (0, ())).bind (eX (fun (v4 : Unit) =>
 some true))
def tc29 : TCn := ⟨[(.slice 9 qb5), (.slice 9 qb5)], [.bool], ql4⟩
def T29 := (29, tc29) :: T40
theorem t29 (hT : Pw) : Tb T29 := Tbl.add (t40 hT) hn 8 29 tc29 (by kernel_rfl) (fun a => by kernel_rfl)
def qo2 (a : Int × (Int × Unit)) : Option ByteArray := fmtG a.1 a.2.1
def T36 := (36, tcFmt) :: T29
theorem t36 (hT : Pw) : Tb T36 := Tbl.hand (t29 hT) 36 tcFmt (fmtOk ⟨_, Tryd.func36, by kernel_rfl, by kernel_rfl⟩ hT Tryd.strconv_FormatInt_10) rfl
def qs6 (a : ByteArray × (Int × Unit)) : Option ByteArray := repG a.1 a.2.1
def T37 := (37, tcRep) :: T36
theorem t37 (hT : Pw) : Tb T37 := Tbl.hand (t36 hT) 37 tcRep (repOk ⟨_, Tryd.func37, by kernel_rfl, by kernel_rfl⟩ Tryd.strings_Repeat_zero Tryd.strings_Repeat_one (fun s c w h1 h2 h3 => Tryd.strings_Repeat_empty s c w h1 h2 h3) (fun s c w h1 h2 h3 h4 => Tryd.strings_Repeat_main s c w h1 h2 h3 h4)) rfl
def T55 := (55, zu6) :: T37
theorem t55 (hT : Pw) : Tb T55 := Tbl.hand (t37 hT) 55 zu6 (cutpOk ⟨_, Tryd.func55, by kernel_rfl, by kernel_rfl⟩ Tryd.strings_CutPrefix) rfl
def qc6 (a : (Int × Unit)) : Option ByteArray :=
bif ((decide (a.1 < 1)) || (decide (a.1 > 1000000000))) then some (ByteArray.mk (List.toArray []))
else ((qo2 (a.1, (10, ())))).bind (fun (v1 : ByteArray) =>
 ((qs6 ((ByteArray.mk (List.toArray (48 :: []))), ((IntKind.wrap .i64 (10 - ((ByteArray.size v1) : Int))), ())))).bind (fun (v2 : ByteArray) =>
 bif (decide ((4 + (ByteArray.size v2))<=9223372036854775807)) then bif (decide (((ByteArray.size ((ByteArray.mk (List.toArray (108 :: (111 :: (103 :: (46 :: [])))))) ++ v2)) + (ByteArray.size v1))<=9223372036854775807)) then some (((ByteArray.mk (List.toArray (108 :: (111 :: (103 :: (46 :: [])))))) ++ v2) ++ v1)
  else none
 else none))
def tc16 : TCn := ⟨[(.int .i64)], [.str], qc6⟩
def T16 := (16, tc16) :: T55
theorem t16 (hT : Pw) : Tb T16 := Tbl.add (t55 hT) hn 8 16 tc16 (by kernel_rfl) (fun a => by kernel_rfl)
def qw3 (a : ByteArray × Unit) : Option Int := numG qc6 a.1
def T35 := (35, tcNum qc6) :: T16
theorem t35 (hT : Pw) : Tb T35 := Tbl.hand (t16 hT) 35 (tcNum qc6) (numberOk (ti := 2) (ts := 9) (tb := 4) (tt := 109) (tr := 21) (t0 := 0) (fc := 55) (fn := 16) (by unfold numIs qnL; kernel_rfl) (by kernel_rfl) (by kernel_rfl) (by kernel_rfl) (by kernel_rfl) Tryd.strings_CutPrefix ((t16 hT).con 16) ⟨_, Tryd.func55, by kernel_rfl, by kernel_rfl⟩ ⟨_, Tryd.func16, by kernel_rfl, by kernel_rfl⟩) rfl
def qd3 (a : (qp1 × Unit)) : Option (List Int) :=
((qi6 a)).bind (fun (v1 : Bool) =>
 bif (!v1) then some []
 else (
 qb9 (fun (v2 : ((List Int) × (Int × Unit))) =>
  bif (decide (v2.2.1 < (a.1.1.length : Int))) then ((qj3 a.1.1 v2.2.1)).bind (fun (v3 : qc9) =>
   ((qw3 (v3.1, ()))).bind (fun (v4 : Int) =>
   (
    bif (decide (v4 > 0)) then ((qn7 v2.1 (v4 :: []) 8)).bind (fun (v5 : (List Int)) =>
     some (v5, ()))
    else some (v2.1, ())).bind (fun (v6 : ((List Int) × Unit)) =>
    some (.inl (v6.1, ((IntKind.wrap .i64 (v2.2.1 + 1)), ()))))))
  else (some (v2.1, ())).map .inr) ([], (0, ()))).bind (fun (v7 : ((List Int) × Unit)) =>
 some v7.1))
def tc15 : TCn := ⟨[qj9], [(.slice 1 (.int .i64))], qd3⟩
def T15 := (15, tc15) :: T35
theorem t15 (hT : Pw) : Tb T15 := Tbl.add (t35 hT) hn 8 15 tc15 (by kernel_rfl) (fun a => by kernel_rfl)
def ql5 (a : (qbD × Unit)) : Option Bool :=
bif ((((((decide (a.1.1 < 1)) || (decide (a.1.1 > 1000000))) || (decide (a.1.2.1 < 1))) || (decide (a.1.2.1 > 1000000001))) || (decide (a.1.2.2.1 < 0))) || (decide (a.1.2.2.1 ≥ a.1.2.1))) then some false
else (
 bif ((decide ((a.1.2.2.2.2.2.1.length : Int) > 32)) || ((a.1.2.2.2.2.2.1.length : Int) != (IntKind.wrap .i64 ((IntKind.wrap .i64 (a.1.2.1 - 1)) - a.1.2.2.1)))) then some true
 else ((qcW (a.1.2.2.2.2.2.1, ((IntKind.wrap .i64 (a.1.2.2.1 + 1)), (1, ()))))).bind (fun (v1 : Bool) =>
 some (!v1))).bind (fun (v2 : Bool) =>
 bif v2 then some false
 else (
 qb9 (fun (v3 : (Int × Unit)) =>
  bif (decide (v3.1 < (a.1.2.2.2.2.2.1.length : Int))) then ((qj3 a.1.2.2.2.2.2.1 v3.1)).bind (fun (v4 : qa8) =>
   bif (v4.1 != a.1.1) then ((bif (decide (v3.1 ≥ 0)) then some false
   else bif (a.1.2.2.2.1 == 0) then some (a.1.2.2.2.2.1 == 0)
   else some (((((decide (a.1.2.2.2.1 ≥ 1)) && (decide (a.1.2.2.2.2.1 ≥ 1))) && (decide (a.1.2.2.2.2.1<=8))) && (decide (a.1.2.2.2.1<=(IntKind.wrap .i64 (a.1.2.2.1 + 1))))) && ((IntKind.wrap .i64 (a.1.2.2.2.1 + a.1.2.2.2.2.1)) == (IntKind.wrap .i64 (a.1.2.2.1 + 1))))).map .inr).map .inr
   else some (.inl ((IntKind.wrap .i64 (v3.1 + 1)), ())))
  else (some (.inl ())).map .inr) (0, ())).bind (eX (fun (v5 : Unit) =>
 bif (a.1.2.2.2.1 == 0) then some (a.1.2.2.2.2.1 == 0)
 else some (((((decide (a.1.2.2.2.1 ≥ 1)) && (decide (a.1.2.2.2.2.1 ≥ 1))) && (decide (a.1.2.2.2.2.1<=8))) && (decide (a.1.2.2.2.1<=(IntKind.wrap .i64 (a.1.2.2.1 + 1))))) && ((IntKind.wrap .i64 (a.1.2.2.2.1 + a.1.2.2.2.2.1)) == (IntKind.wrap .i64 (a.1.2.2.1 + 1)))))))
def tc14 : TCn := ⟨[qmG], [.bool], ql5⟩
def T14 := (14, tc14) :: T15
theorem t14 (hT : Pw) : Tb T14 := Tbl.add (t15 hT) hn 8 14 tc14 (by kernel_rfl) (fun a => by kernel_rfl)
def qcX (a : (qbD × (qp1 × Unit))) : Option Bool :=
((ql5 (a.1, ()))).bind (fun (v1 : Bool) =>
 (
 bif (!v1) then some true
 else ((qi6 a.2)).bind (fun (v2 : Bool) =>
  some (!v2))).bind (fun (v3 : Bool) =>
 bif v3 then some false
 else (
  qb9 (fun (v4 : (Bool × (Int × Unit))) =>
  bif (decide (v4.2.1 < (a.2.1.1.length : Int))) then ((qj3 a.2.1.1 v4.2.1)).bind (fun (v5 : qc9) =>
   ((qw3 (v5.1, ()))).bind (fun (v6 : Int) =>
    (
    bif ((decide (v6 > 0)) && (v6 == a.1.2.2.2.1)) then some (.inl (((v5.2.1.length : Int) == (IntKind.wrap .i64 (a.1.2.2.2.2.1 * 72))), ()))
    else bif (decide (v6 > a.1.2.2.1)) then (((some false).map .inr).map .inr).map .inr
    else some (.inl (v4.1, ()))).bind (eX (fun (v7 : (Bool × Unit)) =>
    some (.inl (v7.1, ((IntKind.wrap .i64 (v4.2.1 + 1)), ())))))))
  else (some (.inl (v4.1, ()))).map .inr) ((a.1.2.2.2.1 == 0), (0, ()))).bind (eX (fun (v8 : (Bool × Unit)) =>
  some v8.1))))
def tc25 : TCn := ⟨[qmG, qj9], [.bool], qcX⟩
def T25 := (25, tc25) :: T14
theorem t25 (hT : Pw) : Tb T25 := Tbl.add (t14 hT) hn 8 25 tc25 (by kernel_rfl) (fun a => by kernel_rfl)
theorem mOk21 (hT : Pw) : qj8 Tryd.prog 21 (qnR (tcRem qc6 qg4)) := remOk (C := qiY lbL ([] : List (FuncId × TCn)) T25) (t25 hT).con (by kernel_rfl) (by kernel_rfl)
def qb3 := remG qc6 qg4
def M21 : List (FuncId × TCn) := (21, tcRem qc6 qg4) :: ([] : List (FuncId × TCn))
abbrev Tc [Inhabited TabsD] := Tbl Tryd.prog lbL M21
theorem u21 (hT : Pw) : Tc T25 := Tbl.met (t25 hT) 21 _ (mOk21 hT) (by kernel_rfl)
def qcY (a : (qp1 × Unit)) : Option ((List qy7) × ((List Int) × Unit)) :=
((qd3 a)).bind (fun (v1 : (List Int)) =>
 (
 qb9 (fun (v2 : ((List qy7) × (Int × qo1))) =>
  bif (decide (v2.2.2.2.1 < (v1.length : Int))) then ((qj3 v1 v2.2.2.2.1)).bind (fun (v3 : Int) =>
   (
   bif (decide (v2.2.2.2.1 > 0)) then (
    bif (v3 != v2.2.1) then some true
    else bif (inI (IntKind.wrap .i64 (v2.2.2.2.1 - 1)) v2.1.length) then (v2.1[(Int.toNat (IntKind.wrap .i64 (v2.2.2.2.1 - 1)))]?).bind (fun (v4 : qy7) =>
     some v4.2.2.1)
    else none).bind (fun (v5 : Bool) =>
    some v5)
   else some false).bind (fun (v6 : Bool) =>
   bif v6 then ((qp0 v1 v2.2.2.2.1 (v1.length : Int))).bind (fun (v7 : (List Int)) =>
    ((some (v2.1, (v7, ()))).map .inr).map .inr)
   else ((qc6 (v3, ()))).bind (fun (v8 : ByteArray) =>
    ((qaW (a.1, (v8, ())))).bind (fun (v9 : ((List Int) × (Int × Unit))) =>
    ((qp0 v9.1 0 (if (false = true) then (if (576 > (v9.1.length : Int)) then 576 else (v9.1.length : Int)) else (if (576 < (v9.1.length : Int)) then 576 else (v9.1.length : Int))))).bind (fun (v10 : (List Int)) =>
     ((qaX (v10, (v3, (v2.2.2.1, ()))))).bind (fun (v11 : ((List qa8) × (Int × Unit))) =>
     ((qn7 v2.1 ((v3, (v11.1, ((decide (v11.2.1 < (v9.1.length : Int))), ()))) :: []) 40)).bind (fun (v12 : (List qy7)) =>
      bif ((v11.1.length : Int) == 0) then ((qp0 v1 (IntKind.wrap .i64 (v2.2.2.2.1 + 1)) (v1.length : Int))).bind (fun (v13 : (List Int)) =>
       ((some (v12, (v13, ()))).map .inr).map .inr)
      else ((qj3 v11.1 (IntKind.wrap .i64 ((v11.1.length : Int) - 1)))).bind (fun (v14 : qa8) =>
      some (.inl (v12, ((IntKind.wrap .i64 (v3 + (v11.1.length : Int))), (v14.1, ((IntKind.wrap .i64 (v2.2.2.2.1 + 1)), ())))))))))))))
  else (some (.inl (v2.1, ()))).map .inr) ([], (0, (1, (0, ()))))).bind (eX (fun (v15 : ((List qy7) × Unit)) =>
 some (v15.1, ([], ())))))
def tc18 : TCn := ⟨[qj9], [(.slice 3 qxV), (.slice 1 (.int .i64))], qcY⟩
def T18 := (18, tc18) :: T25
theorem t18 (hT : Pw) : Tc T18 := Tbl.add (u21 hT) hn 8 18 tc18 (by kernel_rfl) (fun a => by kernel_rfl)
def ql6 (a : (qbD × (Int × ((Int × (Int × (Int × (Int × qo1)))) × Unit)))) : Option (qbD × (Int × Unit)) :=
((ql5 (a.1, ()))).bind (fun (v1 : Bool) =>
 (
 bif (!v1) then some ((!v1), ())
 else (
  bif (decide (a.2.1 < 1)) then some ((decide (a.2.1 < 1)), ())
  else some ((decide (a.2.1 > 6)), ())).bind (fun (v2 : (Bool × Unit)) =>
  some v2)).bind (fun (v3 : (Bool × Unit)) =>
 bif v3.1 then some (a.1, (1, ()))
 else bif (decide (a.1.2.1 > 1000000000)) then some (a.1, (3, ()))
 else bif ((a.1.2.2.2.2.2.1.length : Int) == 32) then some (a.1, (6, ()))
 else ((qn7 [] a.1.2.2.2.2.2.1 72)).bind (fun (v4 : (List qa8)) =>
  ((qn7 v4 ((a.1.1, (a.1.2.1, a.2)) :: []) 72)).bind (fun (v5 : (List qa8)) =>
  some ((a.1.1, ((IntKind.wrap .i64 (a.1.2.1 + 1)), (a.1.2.2.1, (a.1.2.2.2.1, (a.1.2.2.2.2.1, (v5, ())))))), (0, ()))))))
def tc7 : TCn := ⟨[qmG, (.int .i64), (.cons (.int .i64) (.cons (.int .i64) (.cons (.int .i64) (.cons (.int .i64) zc2))))], [qmG, (.int .i64)], ql6⟩
def T7 := (7, tc7) :: T18
theorem t7 (hT : Pw) : Tc T7 := Tbl.add (t18 hT) hn 8 7 tc7 (by kernel_rfl) (fun a => by kernel_rfl)
def quV (a : ((List qa8) × Unit)) : Option (List qa8) := qn7 [] a.1 72
def tc24 : TCn := ⟨[.slice 9 qb5], [.slice 9 qb5], quV⟩
def T24 := (24, tc24) :: T7
theorem t24 (hT : Pw) : Tc T24 := Tbl.hand (t7 hT) 24 tc24 (zb9 (sh := qb5) (qrB (t := 25) (tb := 4) (e := 61) (s := 9) (bytes := 72) (by unfold qnL; kernel_rfl) (by kernel_rfl) (by kernel_rfl))) (by kernel_rfl)
def qf9 (a : (qbD × (qp1 × Unit))) : Option (qbD × qh6) :=
((qcX a)).bind (fun (v1 : Bool) =>
 bif (!v1) then some (a.1, (a.2.1, (1, ())))
 else (
 qb9 (fun (v2 : (Int × (Int × (Int × (Int × (Int × ((List qa8) × ((List qc9) × (Int × (Int × (Bool × (Int × (Int × (Int × (Int × (Int × ((List qa8) × qp1))))))))))))))))) =>
  bif (decide ((v2.2.2.2.2.2.1.length : Int) > 0)) then (
   bif ((v2.2.2.2.1 == 0) || (v2.2.2.2.2.1 == 8)) then some ((IntKind.wrap .i64 (v2.2.2.1 + 1)), (0, ()))
   else some (v2.2.2.2.1, (v2.2.2.2.2.1, ()))).bind (fun (v3 : qo1) =>
   ((qp0 v2.2.2.2.2.2.1 0 (if (false = true) then (if ((IntKind.wrap .i64 (8 - v3.2.1)) > (v2.2.2.2.2.2.1.length : Int)) then (IntKind.wrap .i64 (8 - v3.2.1)) else (v2.2.2.2.2.2.1.length : Int)) else (if ((IntKind.wrap .i64 (8 - v3.2.1)) < (v2.2.2.2.2.2.1.length : Int)) then (IntKind.wrap .i64 (8 - v3.2.1)) else (v2.2.2.2.2.2.1.length : Int))))).bind (fun (v4 : (List qa8)) =>
   ((qu3 (v4, ()))).bind (fun (v5 : ((List Int) × (Int × Unit))) =>
    ((qc6 (v3.1, ()))).bind (fun (v6 : ByteArray) =>
    ((qp5 ((v2.2.2.2.2.2.2.1, (v2.2.2.2.2.2.2.2.1, (v2.2.2.2.2.2.2.2.2.1, (v2.2.2.2.2.2.2.2.2.2.1, ())))), (v6, (v5.1, ()))))).bind (fun (v7 : qh6) =>
     (
     bif (v7.2.1 == 0) then ((qc6 (v3.1, ()))).bind (fun (v8 : ByteArray) =>
      ((qv0 (v7.1, (v8, ())))).bind (fun (v9 : qh6) =>
       some (v9.2.1, v9.1)))
     else some (v7.2.1, v7.1)).bind (fun (v10 : (Int × qp1)) =>
     bif (v10.1 != 0) then ((some ((v2.1, (v2.2.1, (v2.2.2.1, (v2.2.2.2.1, (v2.2.2.2.2.1, (v2.2.2.2.2.2.1, ())))))), (v10.2, (v10.1, ())))).map .inr).map .inr
     else ((qp0 v2.2.2.2.2.2.1 (if (false = true) then (if ((IntKind.wrap .i64 (8 - v3.2.1)) > (v2.2.2.2.2.2.1.length : Int)) then (IntKind.wrap .i64 (8 - v3.2.1)) else (v2.2.2.2.2.2.1.length : Int)) else (if ((IntKind.wrap .i64 (8 - v3.2.1)) < (v2.2.2.2.2.2.1.length : Int)) then (IntKind.wrap .i64 (8 - v3.2.1)) else (v2.2.2.2.2.2.1.length : Int))) (v2.2.2.2.2.2.1.length : Int))).bind (fun (v11 : (List qa8)) =>
      ((quV (v11, ()))).bind (fun (v12 : (List qa8)) =>
      some (.inl (v2.1, (v2.2.1, ((IntKind.wrap .i64 (v2.2.2.1 + (if (false = true) then (if ((IntKind.wrap .i64 (8 - v3.2.1)) > (v2.2.2.2.2.2.1.length : Int)) then (IntKind.wrap .i64 (8 - v3.2.1)) else (v2.2.2.2.2.2.1.length : Int)) else (if ((IntKind.wrap .i64 (8 - v3.2.1)) < (v2.2.2.2.2.2.1.length : Int)) then (IntKind.wrap .i64 (8 - v3.2.1)) else (v2.2.2.2.2.2.1.length : Int))))), (v3.1, ((IntKind.wrap .i64 (v3.2.1 + (if (false = true) then (if ((IntKind.wrap .i64 (8 - v3.2.1)) > (v2.2.2.2.2.2.1.length : Int)) then (IntKind.wrap .i64 (8 - v3.2.1)) else (v2.2.2.2.2.2.1.length : Int)) else (if ((IntKind.wrap .i64 (8 - v3.2.1)) < (v2.2.2.2.2.2.1.length : Int)) then (IntKind.wrap .i64 (8 - v3.2.1)) else (v2.2.2.2.2.2.1.length : Int))))), (v12, (v10.2.1, (v10.2.2.1, (v10.2.2.2.1, (v10.2.2.2.2.1, v2.2.2.2.2.2.2.2.2.2.2)))))))))))))))))))
  else (some (.inl v2)).map .inr) (a.1.1, (a.1.2.1, (a.1.2.2.1, (a.1.2.2.2.1, (a.1.2.2.2.2.1, (a.1.2.2.2.2.2.1, (a.2.1.1, (a.2.1.2.1, (a.2.1.2.2.1, (a.2.1.2.2.2.1, (0, (0, (0, (0, (0, ([], ([], (0, (0, (false, ()))))))))))))))))))))).bind (eX (fun (v13 : (Int × (Int × (Int × (Int × (Int × ((List qa8) × ((List qc9) × (Int × (Int × (Bool × (Int × (Int × (Int × (Int × (Int × ((List qa8) × qp1))))))))))))))))) =>
 some ((v13.1, (v13.2.1, (v13.2.2.1, (v13.2.2.2.1, (v13.2.2.2.2.1, (v13.2.2.2.2.2.1, ())))))), ((v13.2.2.2.2.2.2.1, (v13.2.2.2.2.2.2.2.1, (v13.2.2.2.2.2.2.2.2.1, (v13.2.2.2.2.2.2.2.2.2.1, ())))), (0, ()))))))
def tc8 : TCn := ⟨[qmG, qj9], [qmG, qj9, (.int .i64)], qf9⟩
def T8 := (8, tc8) :: T24
theorem t8 (hT : Pw) : Tc T8 := Tbl.add (t24 hT) hn 8 8 tc8 (by kernel_rfl) (fun a => by kernel_rfl)
def qi3 (a : qh6) : Option (qbD × (qp1 × ((List qa8) × (Int × Unit)))) :=
((qi6 (a.1, ()))).bind (fun (v1 : Bool) =>
 (
 bif (!v1) then some ((!v1), ())
 else (
  bif (decide (a.2.1 < 0)) then some ((decide (a.2.1 < 0)), ())
  else some ((decide (a.2.1 ≥ 1000000000)), ())).bind (fun (v2 : (Bool × Unit)) =>
  some v2)).bind (fun (v3 : (Bool × Unit)) =>
 bif v3.1 then some ((0, (0, (0, (0, (0, ([], ())))))), (a.1, ([], (1, ()))))
 else bif a.1.2.2.2.1 then some ((0, (0, (0, (0, (0, ([], ())))))), (a.1, ([], (9, ()))))
 else ((qcY (a.1, ()))).bind (fun (v4 : ((List qy7) × ((List Int) × Unit))) =>
  (
  qb9 (fun (v5 : ((List qa8) × (Int × Unit))) =>
   bif (decide (v5.2.1 < (v4.1.length : Int))) then ((qj3 v4.1 v5.2.1)).bind (fun (v6 : qy7) =>
    ((qn7 v5.1 v6.2.1 72)).bind (fun (v7 : (List qa8)) =>
    some (.inl (v7, ((IntKind.wrap .i64 (v5.2.1 + 1)), ())))))
   else (some (v5.1, ())).map .inr) ([], (0, ()))).bind (fun (v8 : ((List qa8) × Unit)) =>
  (
   bif ((v8.1.length : Int) == 0) then some true
   else bif (inI (IntKind.wrap .i64 ((v8.1.length : Int) - 1)) v8.1.length) then (v8.1[(Int.toNat (IntKind.wrap .i64 ((v8.1.length : Int) - 1)))]?).bind (fun (v9 : qa8) =>
    some (decide (v9.2.1 < a.2.1)))
   else none).bind (fun (v10 : Bool) =>
   (
   bif (!v10) then bif (inI (IntKind.wrap .i64 ((v8.1.length : Int) - 1)) v8.1.length) then (v8.1[(Int.toNat (IntKind.wrap .i64 ((v8.1.length : Int) - 1)))]?).bind (fun (v11 : qa8) =>
     some ((IntKind.wrap .i64 (v11.1 + 1)), (0, (0, (0, (0, ([], ())))))))
    else none
   else some (1, (0, (0, (0, (0, ([], ()))))))).bind (fun (v12 : qbD) =>
   (
    bif (decide ((v4.1.length : Int) > 0)) then ((qj3 v4.1 0)).bind (fun (v13 : qy7) =>
     some (decide (v13.1 > (IntKind.wrap .i64 (a.2.1 + 1)))))
    else some false).bind (fun (v14 : Bool) =>
    bif v14 then some ((0, (0, (0, (0, (0, ([], ())))))), (a.1, ([], (11, ()))))
    else bif (decide (v12.1 > 1000000)) then some ((0, (0, (0, (0, (0, ([], ())))))), (a.1, ([], (3, ()))))
    else ((qb3 ((a.1, (0, ())), v4.2))).bind (fun (v15 : qh6) =>
    bif ((v4.1.length : Int) == 0) then bif v10 then ((qd3 (v15.1, ()))).bind (fun (v16 : (List Int)) =>
      ((qb3 (v15, (v16, ())))).bind (fun (v17 : qh6) =>
      bif (v17.2.1 != 0) then some ((0, (0, (0, (0, (0, ([], ())))))), (v17.1, ([], v17.2)))
      else (
       qb9 (fun (v18 : (Int × Unit)) =>
       bif (decide (v18.1 < 0)) then none
       else (some (.inl ())).map .inr) (0, ())).bind (eX (fun (v19 : Unit) =>
       some ((v12.1, ((IntKind.wrap .i64 (a.2.1 + 1)), (a.2.1, v12.2.2.2))), (v17.1, ([], (0, ()))))))))
     else ((qj3 v4.1 (IntKind.wrap .i64 ((v4.1.length : Int) - 1)))).bind (fun (v20 : qy7) =>
     bif (inI (IntKind.wrap .i64 ((v8.1.length : Int) - 1)) v8.1.length) then (v8.1[(Int.toNat (IntKind.wrap .i64 ((v8.1.length : Int) - 1)))]?).bind (fun (v21 : qa8) =>
      bif (v15.2.1 != 0) then some ((0, (0, (0, (0, (0, ([], ())))))), (v15.1, ([], v15.2)))
      else (
       qb9 (fun (v22 : (Int × Unit)) =>
       bif (decide (v22.1 < (v8.1.length : Int))) then bif (inI v22.1 v8.1.length) then (v8.1[(Int.toNat v22.1)]?).bind (fun (v23 : qa8) =>
         bif (decide (v23.2.1<=a.2.1)) then ((bif (v22.1 == (-1)) then some ((v12.1, ((IntKind.wrap .i64 (v21.2.1 + 1)), (v21.2.1, (v20.1, ((v20.2.1.length : Int), v12.2.2.2.2.2))))), (v15.1, (v8.1, (0, ()))))
         else (
          qb9 (fun (v24 : (Int × (Int × ((List qa8) × Unit)))) =>
          bif (decide (v24.2.1 < (v24.2.2.1.length : Int))) then bif (inI v24.2.1 v24.2.2.1.length) then (v24.2.2.1[(Int.toNat v24.2.1)]?).bind (fun (v25 : qa8) =>
            (
            bif (!(decide (v25.2.1<=a.2.1))) then bif (inI v24.1 v24.2.2.1.length) then (v24.2.2.1[(Int.toNat v24.1)]?).bind (fun (v26 : qa8) =>
              some ((IntKind.wrap .i64 (v24.1 + 1)), ((List.set v24.2.2.1 (Int.toNat v24.1) v25), ())))
             else none
            else some (v24.1, v24.2.2)).bind (fun (v27 : (Int × ((List qa8) × Unit))) =>
            some (.inl (v27.1, ((IntKind.wrap .i64 (v24.2.1 + 1)), v27.2)))))
           else none
          else (some (v24.1, v24.2.2)).map .inr) (v22.1, ((IntKind.wrap .i64 (v22.1 + 1)), v8))).bind (fun (v28 : (Int × ((List qa8) × Unit))) =>
          bif (qoP v28.1 (v28.2.1.length : Int) v28.2.1.length) then bif (Nat.ble ((Int.toNat v28.1) + ((Int.toNat (v28.2.1.length : Int)) - (Int.toNat v28.1))) v28.2.1.length) then bif (qoP 0 v28.1 (((v28.2.1.take (Int.toNat v28.1)) ++ (List.replicate ((Int.toNat (v28.2.1.length : Int)) - (Int.toNat v28.1)) (0, (0, (0, ((0, (0, (0, (0, (0, (0, ())))))), ())))))) ++ (v28.2.1.drop ((Int.toNat v28.1) + ((Int.toNat (v28.2.1.length : Int)) - (Int.toNat v28.1))))).length) then some ((v12.1, ((IntKind.wrap .i64 (v21.2.1 + 1)), (v21.2.1, (v20.1, ((v20.2.1.length : Int), v12.2.2.2.2.2))))), (v15.1, ((((((v28.2.1.take (Int.toNat v28.1)) ++ (List.replicate ((Int.toNat (v28.2.1.length : Int)) - (Int.toNat v28.1)) (0, (0, (0, ((0, (0, (0, (0, (0, (0, ())))))), ())))))) ++ (v28.2.1.drop ((Int.toNat v28.1) + ((Int.toNat (v28.2.1.length : Int)) - (Int.toNat v28.1))))).drop 0).take ((Int.toNat v28.1) - 0)), (0, ()))))
           else none
          else none
          else none)).map .inr).map .inr
         else some (.inl ((IntKind.wrap .i64 (v22.1 + 1)), ())))
        else none
       else (some (.inl ())).map .inr) (0, ())).bind (eX (fun (v29 : Unit) =>
       some ((v12.1, ((IntKind.wrap .i64 (v21.2.1 + 1)), (v21.2.1, (v20.1, ((v20.2.1.length : Int), v12.2.2.2.2.2))))), (v15.1, (v8.1, (0, ())))))))
     else none)
    else ((qj3 v4.1 (IntKind.wrap .i64 ((v4.1.length : Int) - 1)))).bind (fun (v30 : qy7) =>
     bif ((v30.2.1.length : Int) == 0) then ((qb3 (v15, ((v30.1 :: []), ())))).bind (fun (v31 : qh6) =>
      ((qp0 v4.1 0 (IntKind.wrap .i64 ((v4.1.length : Int) - 1)))).bind (fun (v32 : (List qy7)) =>
      bif v10 then ((qd3 (v31.1, ()))).bind (fun (v33 : (List Int)) =>
       ((qb3 (v31, (v33, ())))).bind (fun (v34 : qh6) =>
        bif (v34.2.1 != 0) then some ((0, (0, (0, (0, (0, ([], ())))))), (v34.1, ([], v34.2)))
        else (
        qb9 (fun (v35 : (Int × Unit)) =>
         bif (decide (v35.1 < 0)) then none
         else (some (.inl ())).map .inr) (0, ())).bind (eX (fun (v36 : Unit) =>
        some ((v12.1, ((IntKind.wrap .i64 (a.2.1 + 1)), (a.2.1, v12.2.2.2))), (v34.1, ([], (0, ()))))))))
      else ((qj3 v32 (IntKind.wrap .i64 ((v32.length : Int) - 1)))).bind (fun (v37 : qy7) =>
       bif (inI (IntKind.wrap .i64 ((v8.1.length : Int) - 1)) v8.1.length) then (v8.1[(Int.toNat (IntKind.wrap .i64 ((v8.1.length : Int) - 1)))]?).bind (fun (v38 : qa8) =>
        bif (v31.2.1 != 0) then some ((0, (0, (0, (0, (0, ([], ())))))), (v31.1, ([], v31.2)))
        else (
        qb9 (fun (v39 : (Int × Unit)) =>
         bif (decide (v39.1 < (v8.1.length : Int))) then bif (inI v39.1 v8.1.length) then (v8.1[(Int.toNat v39.1)]?).bind (fun (v40 : qa8) =>
          bif (decide (v40.2.1<=a.2.1)) then ((bif (v39.1 == (-1)) then some ((v12.1, ((IntKind.wrap .i64 (v38.2.1 + 1)), (v38.2.1, (v37.1, ((v37.2.1.length : Int), v12.2.2.2.2.2))))), (v31.1, (v8.1, (0, ()))))
           else (
           qb9 (fun (v41 : (Int × (Int × ((List qa8) × Unit)))) =>
            bif (decide (v41.2.1 < (v41.2.2.1.length : Int))) then bif (inI v41.2.1 v41.2.2.1.length) then (v41.2.2.1[(Int.toNat v41.2.1)]?).bind (fun (v42 : qa8) =>
             (
              bif (!(decide (v42.2.1<=a.2.1))) then bif (inI v41.1 v41.2.2.1.length) then (v41.2.2.1[(Int.toNat v41.1)]?).bind (fun (v43 : qa8) =>
               some ((IntKind.wrap .i64 (v41.1 + 1)), ((List.set v41.2.2.1 (Int.toNat v41.1) v42), ())))
              else none
              else some (v41.1, v41.2.2)).bind (fun (v44 : (Int × ((List qa8) × Unit))) =>
              some (.inl (v44.1, ((IntKind.wrap .i64 (v41.2.1 + 1)), v44.2)))))
            else none
            else (some (v41.1, v41.2.2)).map .inr) (v39.1, ((IntKind.wrap .i64 (v39.1 + 1)), v8))).bind (fun (v45 : (Int × ((List qa8) × Unit))) =>
           bif (qoP v45.1 (v45.2.1.length : Int) v45.2.1.length) then bif (Nat.ble ((Int.toNat v45.1) + ((Int.toNat (v45.2.1.length : Int)) - (Int.toNat v45.1))) v45.2.1.length) then bif (qoP 0 v45.1 (((v45.2.1.take (Int.toNat v45.1)) ++ (List.replicate ((Int.toNat (v45.2.1.length : Int)) - (Int.toNat v45.1)) (0, (0, (0, ((0, (0, (0, (0, (0, (0, ())))))), ())))))) ++ (v45.2.1.drop ((Int.toNat v45.1) + ((Int.toNat (v45.2.1.length : Int)) - (Int.toNat v45.1))))).length) then some ((v12.1, ((IntKind.wrap .i64 (v38.2.1 + 1)), (v38.2.1, (v37.1, ((v37.2.1.length : Int), v12.2.2.2.2.2))))), (v31.1, ((((((v45.2.1.take (Int.toNat v45.1)) ++ (List.replicate ((Int.toNat (v45.2.1.length : Int)) - (Int.toNat v45.1)) (0, (0, (0, ((0, (0, (0, (0, (0, (0, ())))))), ())))))) ++ (v45.2.1.drop ((Int.toNat v45.1) + ((Int.toNat (v45.2.1.length : Int)) - (Int.toNat v45.1))))).drop 0).take ((Int.toNat v45.1) - 0)), (0, ()))))
            else none
            else none
           else none)).map .inr).map .inr
          else some (.inl ((IntKind.wrap .i64 (v39.1 + 1)), ())))
         else none
         else (some (.inl ())).map .inr) (0, ())).bind (eX (fun (v46 : Unit) =>
        some ((v12.1, ((IntKind.wrap .i64 (v38.2.1 + 1)), (v38.2.1, (v37.1, ((v37.2.1.length : Int), v12.2.2.2.2.2))))), (v31.1, (v8.1, (0, ())))))))
       else none)))
     else (
     bif (v30.2.2.1 && (v15.2.1 == 0)) then ((qc6 (v30.1, ()))).bind (fun (v47 : ByteArray) =>
      ((qu2 (v15.1, (v47, ((IntKind.wrap .i64 ((v30.2.1.length : Int) * 72)), ()))))).bind (fun (v48 : qh6) =>
       some (v48.1.1, (v48.1.2.1, (v48.1.2.2.1, (v48.1.2.2.2.1, v48.2))))))
     else some (v15.1.1, (v15.1.2.1, (v15.1.2.2.1, (v15.1.2.2.2.1, v15.2))))).bind (fun (v49 : ((List qc9) × quU)) =>
     bif v10 then ((qd3 ((v49.1, (v49.2.1, (v49.2.2.1, (v49.2.2.2.1, ())))), ()))).bind (fun (v50 : (List Int)) =>
      ((qb3 (((v49.1, (v49.2.1, (v49.2.2.1, (v49.2.2.2.1, ())))), v49.2.2.2.2), (v50, ())))).bind (fun (v51 : qh6) =>
       bif (v51.2.1 != 0) then some ((0, (0, (0, (0, (0, ([], ())))))), (v51.1, ([], v51.2)))
       else (
       qb9 (fun (v52 : (Int × Unit)) =>
        bif (decide (v52.1 < 0)) then none
        else (some (.inl ())).map .inr) (0, ())).bind (eX (fun (v53 : Unit) =>
       some ((v12.1, ((IntKind.wrap .i64 (a.2.1 + 1)), (a.2.1, v12.2.2.2))), (v51.1, ([], (0, ()))))))))
     else ((qj3 v4.1 (IntKind.wrap .i64 ((v4.1.length : Int) - 1)))).bind (fun (v54 : qy7) =>
      bif (inI (IntKind.wrap .i64 ((v8.1.length : Int) - 1)) v8.1.length) then (v8.1[(Int.toNat (IntKind.wrap .i64 ((v8.1.length : Int) - 1)))]?).bind (fun (v55 : qa8) =>
       bif (v49.2.2.2.2.1 != 0) then some ((0, (0, (0, (0, (0, ([], ())))))), ((v49.1, (v49.2.1, (v49.2.2.1, (v49.2.2.2.1, ())))), ([], v49.2.2.2.2)))
       else (
       qb9 (fun (v56 : (Int × Unit)) =>
        bif (decide (v56.1 < (v8.1.length : Int))) then bif (inI v56.1 v8.1.length) then (v8.1[(Int.toNat v56.1)]?).bind (fun (v57 : qa8) =>
         bif (decide (v57.2.1<=a.2.1)) then ((bif (v56.1 == (-1)) then some ((v12.1, ((IntKind.wrap .i64 (v55.2.1 + 1)), (v55.2.1, (v54.1, ((v54.2.1.length : Int), v12.2.2.2.2.2))))), ((v49.1, (v49.2.1, (v49.2.2.1, (v49.2.2.2.1, ())))), (v8.1, (0, ()))))
          else (
          qb9 (fun (v58 : (Int × (Int × ((List qa8) × Unit)))) =>
           bif (decide (v58.2.1 < (v58.2.2.1.length : Int))) then bif (inI v58.2.1 v58.2.2.1.length) then (v58.2.2.1[(Int.toNat v58.2.1)]?).bind (fun (v59 : qa8) =>
            (
             bif (!(decide (v59.2.1<=a.2.1))) then bif (inI v58.1 v58.2.2.1.length) then (v58.2.2.1[(Int.toNat v58.1)]?).bind (fun (v60 : qa8) =>
              some ((IntKind.wrap .i64 (v58.1 + 1)), ((List.set v58.2.2.1 (Int.toNat v58.1) v59), ())))
             else none
             else some (v58.1, v58.2.2)).bind (fun (v61 : (Int × ((List qa8) × Unit))) =>
             some (.inl (v61.1, ((IntKind.wrap .i64 (v58.2.1 + 1)), v61.2)))))
           else none
           else (some (v58.1, v58.2.2)).map .inr) (v56.1, ((IntKind.wrap .i64 (v56.1 + 1)), v8))).bind (fun (v62 : (Int × ((List qa8) × Unit))) =>
          bif (qoP v62.1 (v62.2.1.length : Int) v62.2.1.length) then bif (Nat.ble ((Int.toNat v62.1) + ((Int.toNat (v62.2.1.length : Int)) - (Int.toNat v62.1))) v62.2.1.length) then bif (qoP 0 v62.1 (((v62.2.1.take (Int.toNat v62.1)) ++ (List.replicate ((Int.toNat (v62.2.1.length : Int)) - (Int.toNat v62.1)) (0, (0, (0, ((0, (0, (0, (0, (0, (0, ())))))), ())))))) ++ (v62.2.1.drop ((Int.toNat v62.1) + ((Int.toNat (v62.2.1.length : Int)) - (Int.toNat v62.1))))).length) then some ((v12.1, ((IntKind.wrap .i64 (v55.2.1 + 1)), (v55.2.1, (v54.1, ((v54.2.1.length : Int), v12.2.2.2.2.2))))), ((v49.1, (v49.2.1, (v49.2.2.1, (v49.2.2.2.1, ())))), ((((((v62.2.1.take (Int.toNat v62.1)) ++ (List.replicate ((Int.toNat (v62.2.1.length : Int)) - (Int.toNat v62.1)) (0, (0, (0, ((0, (0, (0, (0, (0, (0, ())))))), ())))))) ++ (v62.2.1.drop ((Int.toNat v62.1) + ((Int.toNat (v62.2.1.length : Int)) - (Int.toNat v62.1))))).drop 0).take ((Int.toNat v62.1) - 0)), (0, ()))))
           else none
           else none
          else none)).map .inr).map .inr
         else some (.inl ((IntKind.wrap .i64 (v56.1 + 1)), ())))
        else none
        else (some (.inl ())).map .inr) (0, ())).bind (eX (fun (v63 : Unit) =>
       some ((v12.1, ((IntKind.wrap .i64 (v55.2.1 + 1)), (v55.2.1, (v54.1, ((v54.2.1.length : Int), v12.2.2.2.2.2))))), ((v49.1, (v49.2.1, (v49.2.2.1, (v49.2.2.2.1, ())))), (v8.1, (0, ())))))))
      else none)))))))))))
def tc6 : TCn := ⟨[qj9, (.int .i64)], [qmG, qj9, (.slice 9 qb5), (.int .i64)], qi3⟩
def T6 := (6, tc6) :: T8
theorem t6 (hT : Pw) : Tc T6 := Tbl.add (t8 hT) hn 8 6 tc6 (by kernel_rfl) (fun a => by kernel_rfl)
def qw4 (a : (qbD × (qbD × Unit))) : Option Bool :=
(
 bif (((((a.1.1 == a.2.1.1) && (a.1.2.1 == a.2.1.2.1)) && (a.1.2.2.1 == a.2.1.2.2.1)) && (a.1.2.2.2.1 == a.2.1.2.2.2.1)) && (a.1.2.2.2.2.1 == a.2.1.2.2.2.2.1)) then ((ql4 (a.1.2.2.2.2.2.1, a.2.1.2.2.2.2.2))).bind (fun (v1 : Bool) =>
  some v1)
 else some false).bind (fun (v2 : Bool) =>
 some v2)
def tc9 : TCn := ⟨[qmG, qmG], [.bool], qw4⟩
def T9 := (9, tc9) :: T6
theorem t9 (hT : Pw) : Tc T9 := Tbl.add (t6 hT) hn 8 9 tc9 (by kernel_rfl) (fun a => by kernel_rfl)
def qp6 (a : Unit) : Option Bool :=
((qi3 (([], (5000, ((-1), (false, ())))), (0, ())))).bind (fun (v1 : (qbD × (qp1 × ((List qa8) × (Int × Unit))))) =>
 (
 qb9 (fun (v2 : (Int × qbD)) =>
  bif (decide (v2.1 < 9)) then ((ql6 (v2.2, (3, (((IntKind.wrap .i64 (v2.1 + 1)), (0, (0, (0, (0, (0, ())))))), ()))))).bind (fun (v3 : (qbD × (Int × Unit))) =>
   bif (v3.2.1 != 0) then ((some false).map .inr).map .inr
   else some (.inl ((IntKind.wrap .i64 (v2.1 + 1)), v3.1)))
  else (some (.inl v2.2)).map .inr) (0, v1.1)).bind (eX (fun (v4 : qbD) =>
 ((qf9 (v4, (v1.2.1, ())))).bind (fun (v5 : (qbD × qh6)) =>
  ((qi3 (v5.2.1, (3, ())))).bind (fun (v6 : (qbD × (qp1 × ((List qa8) × (Int × Unit))))) =>
  ((qd3 (v5.2.1, ()))).bind (fun (v7 : (List Int)) =>
   (
   bif ((((((((((v1.2.2.2.1 == 0) && (v5.2.2.1 == 0)) && (v5.1.2.2.1 == 9)) && (v5.1.2.2.2.1 == 9)) && (v5.1.2.2.2.2.1 == 1)) && (v6.2.2.2.1 == 0)) && (v6.1.1 == 2)) && (v6.1.2.1 == 10)) && ((v6.2.2.1.length : Int) == 6)) && ((v7.length : Int) == 2)) then ((qj3 v7 1)).bind (fun (v8 : Int) =>
    some (v8 == 9))
   else some false).bind (fun (v9 : Bool) =>
   (
    bif v9 then ((qc6 (9, ()))).bind (fun (v10 : ByteArray) =>
     some (decide (v10 = (ByteArray.mk (List.toArray (108 :: (111 :: (103 :: (46 :: (48 :: (48 :: (48 :: (48 :: (48 :: (48 :: (48 :: (48 :: (48 :: (57 :: [])))))))))))))))))))
    else some false).bind (fun (v11 : Bool) =>
    (
    bif v11 then ((ql5 (v6.1, ()))).bind (fun (v12 : Bool) =>
     some v12)
    else some false).bind (fun (v13 : Bool) =>
    some v13)))))))))
def tc5 : TCn := ⟨[], [.bool], qp6⟩
def T5 := (5, tc5) :: T9
theorem t5 (hT : Pw) : Tc T5 := Tbl.add (t9 hT) hn 8 5 tc5 (by kernel_rfl) (fun a => by kernel_rfl)
def qmJ (a : (qbD × qo1)) : Option (qbD × ((List qa8) × Unit)) :=
(
 qb9 (fun (v1 : ((List qa8) × (Int × (Int × (Int × (Int × (Int × (Int × ((List qa8) × qbD))))))))) =>
 bif (decide (v1.2.1 < a.2.1)) then ((ql6 ((v1.2.2.1, (v1.2.2.2.1, (v1.2.2.2.2.1, (v1.2.2.2.2.2.1, (v1.2.2.2.2.2.2.1, (v1.2.2.2.2.2.2.2.1, ())))))), (3, (((IntKind.wrap .i64 (a.2.2.1 + v1.2.1)), (0, (0, (0, (0, (0, ())))))), ()))))).bind (fun (v2 : (qbD × (Int × Unit))) =>
  bif ((v2.2.1 != 0) || ((v2.1.2.2.2.2.2.1.length : Int) == 0)) then ((some ((v1.2.2.1, (v1.2.2.2.1, (v1.2.2.2.2.1, (v1.2.2.2.2.2.1, (v1.2.2.2.2.2.2.1, (v1.2.2.2.2.2.2.2.1, ())))))), (v1.1, ()))).map .inr).map .inr
  else ((qj3 v2.1.2.2.2.2.2.1 (IntKind.wrap .i64 ((v2.1.2.2.2.2.2.1.length : Int) - 1)))).bind (fun (v3 : qa8) =>
   ((qn7 v1.1 (v3 :: []) 72)).bind (fun (v4 : (List qa8)) =>
   some (.inl (v4, ((IntKind.wrap .i64 (v1.2.1 + 1)), (v2.1.1, (v2.1.2.1, (v2.1.2.2.1, (v2.1.2.2.2.1, (v2.1.2.2.2.2.1, (v2.1.2.2.2.2.2.1, v1.2.2.2.2.2.2.2.2))))))))))))
 else (some (.inl (v1.1, v1.2.2))).map .inr) ([], (0, (a.1.1, (a.1.2.1, (a.1.2.2.1, (a.1.2.2.2.1, (a.1.2.2.2.2.1, (a.1.2.2.2.2.2.1, (0, (0, (0, (0, (0, ([], ()))))))))))))))).bind (eX (fun (v5 : ((List qa8) × (Int × (Int × (Int × (Int × (Int × ((List qa8) × qbD)))))))) =>
 some ((v5.2.1, (v5.2.2.1, (v5.2.2.2.1, (v5.2.2.2.2.1, (v5.2.2.2.2.2.1, (v5.2.2.2.2.2.2.1, ())))))), (v5.1, ()))))
def tc11 : TCn := ⟨[qmG, (.int .i64), (.int .i64)], [qmG, (.slice 9 qb5)], qmJ⟩
def T11 := (11, tc11) :: T5
theorem t11 (hT : Pw) : Tc T11 := Tbl.add (t5 hT) hn 8 11 tc11 (by kernel_rfl) (fun a => by kernel_rfl)
def qdS (a : ((List qa8) × ((List qa8) × Unit))) : Option Bool :=
(
 bif (decide ((a.1.length : Int) ≥ (a.2.1.length : Int))) then ((qp0 a.1 0 (a.2.1.length : Int))).bind (fun (v1 : (List qa8)) =>
  ((ql4 (v1, a.2))).bind (fun (v2 : Bool) =>
  some v2))
 else some false).bind (fun (v3 : Bool) =>
 some v3)
def tc13 : TCn := ⟨[(.slice 9 qb5), (.slice 9 qb5)], [.bool], qdS⟩
def T13 := (13, tc13) :: T11
theorem t13 (hT : Pw) : Tc T13 := Tbl.add (t11 hT) hn 8 13 tc13 (by kernel_rfl) (fun a => by kernel_rfl)
def qiZ (a : ((List Int) × ((List Int) × ((List Int) × (Int × Unit))))) : Option Bool :=
((qp6 ())).bind (fun (v1 : Bool) =>
 bif (!v1) then some false
 else bif (((decide ((a.1.length : Int) > 12)) || (decide ((a.2.1.length : Int) > 9))) || (decide ((a.2.2.1.length : Int) > 9))) then some true
 else ((qi3 (([], ((IntKind.wrap .i64 a.2.2.2.1), ((-1), (false, ())))), (0, ())))).bind (fun (v2 : (qbD × (qp1 × ((List qa8) × (Int × Unit))))) =>
 bif (v2.2.2.2.1 != 0) then some false
 else (
  qb9 (fun (v3 : ((List qa8) × (Int × ((List qc9) × (Int × (Int × (Bool × qbD))))))) =>
  bif (decide (v3.2.1<=(a.2.1.length : Int))) then (
   bif (decide (v3.2.1 > 0)) then ((qj3 a.2.1 (IntKind.wrap .i64 (v3.2.1 - 1)))).bind (fun (v4 : Int) =>
    some (v3.2.2.1, (v3.2.2.2.1, ((Int.tmod (IntKind.wrap .i64 v4) 40), (v3.2.2.2.2.2.1, ())))))
   else some (v3.2.2.1, (v3.2.2.2.1, (v3.2.2.2.2.1, (v3.2.2.2.2.2.1, ()))))).bind (fun (v5 : qp1) =>
   (
    qb9 (fun (v6 : ((List qa8) × (Int × ((List qc9) × (Int × (Int × (Bool × qbD))))))) =>
    bif ((decide (v6.2.1 < (a.1.length : Int))) && (!v6.2.2.2.2.2.1)) then ((qj3 a.1 v6.2.1)).bind (fun (v7 : Int) =>
     ((qmJ (v6.2.2.2.2.2.2, ((Int.tmod (IntKind.wrap .i64 v7) 20), (v6.2.1, ()))))).bind (fun (v8 : (qbD × ((List qa8) × Unit))) =>
      ((qn7 v6.1 v8.2.1 72)).bind (fun (v9 : (List qa8)) =>
      ((qf9 (v8.1, ((v6.2.2.1, (v6.2.2.2.1, (v6.2.2.2.2.1, (v6.2.2.2.2.2.1, ())))), ())))).bind (fun (v10 : (qbD × qh6)) =>
       bif ((((v10.2.2.1 != 0) && (v10.2.2.1 != 9)) && (v10.2.2.1 != 6)) || ((v10.2.2.1 == 0) && ((v10.1.2.2.1 != (IntKind.wrap .i64 (v10.1.2.1 - 1))) || (v10.1.2.1 != v8.1.2.1)))) then ((((some false).map .inr).map .inr).map .inr).map .inr
       else some (.inl (v9, ((IntKind.wrap .i64 (v6.2.1 + 1)), (v10.2.1.1, (v10.2.1.2.1, (v10.2.1.2.2.1, (v10.2.1.2.2.2.1, v10.1)))))))))))
    else (some (.inl (v6.1, v6.2.2))).map .inr) (v3.1, (0, (v5.1, (v5.2.1, (v5.2.2.1, (v5.2.2.2.1, v3.2.2.2.2.2.2))))))).bind (eX (fun (v11 : ((List qa8) × ((List qc9) × (Int × (Int × (Bool × qbD)))))) =>
    ((qmI ((v11.2.1, (v11.2.2.1, (v11.2.2.2.1, (v11.2.2.2.2.1, ())))), (a.2.2.1, ((-1), ()))))).bind (fun (v12 : qh6) =>
    ((qi3 (v12.1, (0, ())))).bind (fun (v13 : (qbD × (qp1 × ((List qa8) × (Int × Unit))))) =>
     (
     bif ((v12.2.1 != 0) || (v13.2.2.2.1 != 0)) then some true
     else ((qdS (v11.1, (v13.2.2.1, ())))).bind (fun (v14 : Bool) =>
      some (!v14))).bind (fun (v15 : Bool) =>
     bif ((v15 || (decide ((v13.2.2.1.length : Int) < v11.2.2.2.2.2.2.2.1))) || (v13.1.2.2.1 != (v13.2.2.1.length : Int))) then ((some false).map .inr).map .inr
     else ((qn7 [] v13.2.2.1 72)).bind (fun (v16 : (List qa8)) =>
      some (.inl (v16, ((IntKind.wrap .i64 (v3.2.1 + 1)), (v13.2.1.1, (v13.2.1.2.1, (v13.2.1.2.2.1, (v13.2.1.2.2.2.1, v13.1))))))))))))))
  else (some (.inl v3.2.2)).map .inr) ([], (0, (v2.2.1.1, (v2.2.1.2.1, (v2.2.1.2.2.1, (v2.2.1.2.2.2.1, v2.1))))))).bind (eX (fun (v17 : ((List qc9) × (Int × (Int × (Bool × qbD))))) =>
  ((ql5 (v17.2.2.2.2, ()))).bind (fun (v18 : Bool) =>
  some v18)))))
def tc4 : TCn := ⟨[(.slice 1 (.int .u8)), (.slice 1 (.int .u8)), (.slice 1 (.int .i64)), (.int .u16)], [.bool], qiZ⟩
def T4 := (4, tc4) :: T13
theorem t4 (hT : Pw) : Tc T4 := Tbl.add (t13 hT) hn 8 4 tc4 (by kernel_rfl) (fun a => by kernel_rfl)
end
end Go.AI
