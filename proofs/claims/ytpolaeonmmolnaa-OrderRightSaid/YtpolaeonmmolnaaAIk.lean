/- Steps: reading, making, writing; what a frame and its blocks come to. -/
import Derived.Test.YtpolaeonmmolnaaAIj
namespace Go.AI
set_option linter.unusedVariables false
set_option linter.unusedSimpArgs false

/-- A function's contract, as a step takes it: what it answers of data; the row that it makes anew; what it makes of values and blocks. -/
inductive Con where
  | none
  | val (spec : List DV → Option DV)
  | fresh (s : Nat) (spec : List DV → Option (List (List DV)))
  | shared (spec : Id → List AV → Hp → Option (AV × Hp))

structure St where
  env : Env
  H : Hp

/-- No memory at all. -/
def DV.flat : DV → Bool
  | .agg l => l.all DV.scalar
  | .tup l => l.all fun
    | .agg l => l.all DV.scalar
    | d => d.scalar
  | d => d.scalar

/-- A slice of nothing is a slice. -/
def DV.norm1 : DV → DV
  | .nils s => .sl s []
  | d => d

def DV.norm : DV → DV
  | .agg l => .agg (l.map DV.norm1)
  | d => d.norm1

def upd (H : Hp) (id : Id) (b : Option Blk) : Hp := fun i => if i = id then b else H i

/-- A heap that is written down. -/
def mkH : List (Id × Blk) → Hp
  | [] => fun _ => none
  | (k, b) :: l => fun id => if k = id then some b else mkH l id

def setH : List (Id × Blk) → Id → Blk → List (Id × Blk)
  | [], id, b => [(id, b)]
  | (k, c) :: l, id, b => if k = id then (k, b) :: l else (k, c) :: setH l id b

theorem mkH_nil (id : Id) : mkH [] id = none := rfl
theorem mkH_cons (k : Id) (b : Blk) (l : List (Id × Blk)) (id : Id) : mkH ((k, b) :: l) id = if k = id then some b else mkH l id := rfl
theorem upd_mkH (b : Blk) (id : Id) : ∀ (l : List (Id × Blk)), upd (mkH l) id (some b) = mkH (setH l id b)
  | [] => by
    funext i
    simp only [upd, mkH, setH]
    by_cases e : i = id
    · subst e; simp
    · rw [if_neg e, if_neg (Ne.symm e)]
  | (k, c) :: l => by
    funext i
    have ih := congrFun (upd_mkH b id l) i
    simp only [upd, setH] at ih ⊢
    by_cases e : k = id
    · subst e
      rw [if_pos rfl]
      simp only [mkH]
      by_cases f : i = k
      · subst f; simp
      · rw [if_neg f, if_neg (Ne.symm f), if_neg (Ne.symm f)]
    · rw [if_neg e]
      simp only [mkH]
      by_cases f : i = id
      · subst f
        rw [if_pos rfl] at ih ⊢
        rw [if_neg e]
        exact ih
      · rw [if_neg f] at ih ⊢
        by_cases g : k = i
        · rw [if_pos g, if_pos g]
        · rw [if_neg g, if_neg g]; exact ih

mutual
/-- The data that a value comes to, and the blocks that it lies in. -/
def argD (H : Hp) : Nat → AV → Option (DV × List Id)
  | 0, _ => none
  | k + 1, x => match x with
    | .val d => some (d.norm, [])
    | .row id s o n => match H id with
      | some (.row s' es) => if s' = s ∧ o + n ≤ es.length then some (.sl s ((es.drop o).take n), [id]) else none
      | some (.frow s' es) => if s' = s ∧ o + n ≤ es.length then some (.sl s ((es.drop o).take n), []) else none
      | _ => none
    | .agg l => (argDs H k l).map fun (ds, ids) => (.agg ds, ids)
    | .clo f l => (argDs H k l).map fun (ds, ids) => (.fn f ds, ids)
    | .box id o => match H id with
      | some (.box cells) => (argDs H k cells).map fun (ds, ids) => (.pt (ds.drop o), id :: ids)
      | some (.fbox cells) => some (.pt (cells.drop o), [])
      | _ => none
    | .elt id i o => match H id with
      | some (.frow _ es) => (es[i]?).map fun e => (.pt (e.drop o), [])
      | some (.row _ es) => (es[i]?).map fun e => (.pt (e.drop o), [id])
      | _ => none
    | _ => none
def argDs (H : Hp) : Nat → List AV → Option (List DV × List Id)
  | 0, _ => none
  | _ + 1, [] => some ([], [])
  | k + 1, x :: l => match argD H k x, argDs H k l with
    | some (d, a), some (ds, b) => some (d :: ds, a ++ b)
    | _, _ => none
end

/-- Blocks that stay as they are from now on. -/
def okFix (H : Hp) (ids : List Id) (i : Id) : Bool :=
  match H i with
  | some (.box cells) => (match argDs H 99 cells with
    | some (_, more) => more.all ids.contains
    | none => false)
  | _ => true

def fixB (H : Hp) : Option Blk → Option Blk
  | some (.row s es) => some (.frow s es)
  | some (.box cells) => (match argDs H 99 cells with
    | some (ds, _) => some (.fbox ds)
    | none => none)
  | b => b

def fix (H : Hp) : List Id → Option Hp
  | [] => some H
  | id :: ids => if (id :: ids).all (okFix H (id :: ids)) then some (fun i => if (id :: ids).contains i then fixB H (H i) else H i) else none

/-- The elements of a slice. -/
def elems (H : Hp) (s : Nat) : AV → Option (List (List DV))
  | .val (.sl s' l) => if s' = s then some l else none
  | .val (.nils _) => some []
  | .row id s' o n => if s' = s then (match H id with
    | some (.row s'' es) | some (.frow s'' es) => if s'' = s ∧ o + n ≤ es.length then some ((es.drop o).take n) else none
    | _ => none) else none
  | _ => none

/-- Bytes of elements. -/
def bytesD : List (List DV) → Option (List UInt8)
  | [] => some []
  | [.int .u8 n] :: l => (bytesD l).map (UInt8.ofNat n.toNat :: ·)
  | _ => none

def dBytes (s : ByteArray) : List (List DV) := s.data.toList.map fun b => [.int .u8 b.toNat]

/-- Is a value one cell? -/
def AV.single : AV → Bool
  | .val d => d.single
  | .box .. | .elt .. | .row .. | .clo .. => true
  | _ => false

/-- A load. -/
def loadA (H : Hp) (n : Nat) (agg : Bool) : AV → Option AV
  | .val (.pt cs) => if n ≤ cs.length then ofDCells agg (cs.take n) else none
  | .box id o => match H id with
    | some (.box cells) => if o + n ≤ cells.length then ofCells agg ((cells.drop o).take n) else none
    | some (.fbox cells) => if o + n ≤ cells.length then ofDCells agg ((cells.drop o).take n) else none
    | _ => none
  | .elt id i o => match H id with
    | some (.row _ es) | some (.frow _ es) => match es[i]? with
      | some e => if o + n ≤ e.length then ofDCells agg ((e.drop o).take n) else none
      | none => none
    | _ => none
  | _ => none

def callD (spec : List DV → Option DV) (H : Hp) (args : List AV) : Option (AV × List Id) :=
  match argDs H 99 args with
  | some (ds, ids) => match spec ds with
    | some r => some (.val r, if r.flat then [] else ids)
    | none => none
  | none => none

/-- What reads. -/
def semR (H : Hp) (ρ : Opd → AV) : ROp → Option AV
  | .load n agg x => loadA H n agg (ρ x)
  | .b2s x => ((elems H 1 (ρ x)).bind bytesD).map fun l => .val (.str ⟨l.toArray⟩)
  | .s2b x => match ρ x with
    | .val (.str b) => some (.val (.sl 1 (dBytes b)))
    | _ => none
  | _ => none

/-- A call. -/
def semC (C : FuncId → Con) (H : Hp) (id : Id) (f : FuncId) (args : List AV) : Option (AV × Hp) :=
  match C f with
  | .val spec => match callD spec H args with
    | some (x, ids) => (fix H ids).map fun H' => (x, H')
    | none => none
  | .fresh s spec => match argDs H 99 args with
    | some (ds, ids) => match spec ds with
      | some es => if H id ≠ none ∨ ids.contains id then none else (fix H (if es.all (·.all DV.scalar) then [] else ids)).map fun H' => (.row id s 0 es.length, upd H' id (some (.row s es)))
      | none => none
    | none => none
  | .shared spec => spec id args H
  | .none => none

def setParts (H : Hp) (ρ : Opd → AV) (s : Nat) : List (List DV) → List (Nat × Opd) → Option (List (List DV))
  | es, [] => some es
  | es, (i, x) :: l => match (ρ x).cells with
    | some cs => match argDs H 99 cs with
      | some (ds, []) => if ds.length = s ∧ i < es.length ∧ ds.all DV.single then setParts H ρ s (es.set i ds) l else none
      | _ => none
    | none => none

/-- What makes a block: the value, and the block. -/
def semA (C : FuncId → Con) (H : Hp) (ρ : Opd → AV) (id : Id) : AlOp → Option (AV × Blk)
  | .alloc zero => if zero.all DV.single then some (.box id 0, .box (zero.map .val)) else none
  | .bx x => match (ρ x).cells with
    | some cs => if cs.all AV.single then some (.box id 0, .box cs) else none
    | none => none
  | .bsl s n zero ps => if !(zero.all DV.single) ∨ n > 4611686018427387904 then none else (setParts H ρ s (List.replicate n zero) ps).map fun es => (.row id s 0 n, .row s es)
  | .mks s bytes zero n c => match (ρ n).num, (ρ c).num with
    | some n, some c => if 0 ≤ n ∧ n = c ∧ (bytes : Int) * n ≤ 281474976710656 ∧ n ≤ 4611686018427387904 ∧ zero.all DV.single ∧ zero.length = s then some (.row id s 0 n.toNat, .row s (List.replicate n.toNat zero)) else none
    | _, _ => none

def storeE (es : List (List DV)) (i o : Nat) (ds : List DV) : Option (List (List DV)) :=
  match es[i]? with
  | some e => if o + ds.length ≤ e.length then some (es.set i (splice e o ds)) else none
  | none => none

/-- What an append comes to. -/
def appRes (H : Hp) (id : Id) (s bytes : Nat) (ys : List (List DV)) : AV → Option (AV × Hp)
  | .val (.nils _) => if ys.length * bytes ≤ 140737488355328 ∧ ys.length ≤ maxLen then some (.row id s 0 ys.length, upd H id (some (.row s ys))) else none
  | .row b s' o n => (match H b with
    | some (.row s'' es) => if o = 0 ∧ s' = s ∧ s'' = s ∧ n ≤ es.length ∧ (n + ys.length) * bytes ≤ 140737488355328 ∧ n + ys.length ≤ maxLen then
        some (.row id s 0 (n + ys.length), upd (upd H b (some .dead)) id (some (.row s (es.take n ++ ys)))) else none
    | _ => none)
  | _ => none

/-- What writes: the value, and the blocks behind it. -/
def semW (C : FuncId → Con) (H : Hp) (ρ : Opd → AV) (ns id : Id) : WOp → Option (AV × Hp)
  | .store n x v => match (ρ v).cells with
    | some cs => if cs.length = n ∧ cs.all AV.single then (match ρ x with
      | .box b o => (match H b with
        | some (.box cells) => if o + n ≤ cells.length then some (.val (.tup []), upd H b (some (.box (splice cells o cs)))) else none
        | _ => none)
      | .elt b i o => (match H b, argDs H 99 cs with
        | some (.row s es), some (ds, ids) => (match storeE es i o ds, fix H ids with
          | some es', some H' => if ids.contains b then none else some (.val (.tup []), upd H' b (some (.row s es')))
          | _, _ => none)
        | _, _ => none)
      | _ => none) else none
    | none => none
  | .app s bytes str x y => match (if str then (match ρ y with | .val (.str b) => some (dBytes b) | _ => none) else elems H s (ρ y)) with
    | some ys => if H id ≠ none then none else appRes H id s bytes ys (ρ x)
    | none => none
  | .cpy s x y => none
  | .s2s x => match ρ x with
    | .row b s o n => (match H b with
      | some (.row s' es) => if n ≠ 0 ∧ s' = s then some (.row b s o n, upd H b (some (.frow s' es))) else none
      | _ => none)
    | _ => none

/-- An operation: the value, and the blocks behind it. -/
def semE (C : FuncId → Con) (H : Hp) (ρ : Opd → AV) (ρp : Bool → Opd → AV) (ns id : Id) : AOp → Option (AV × Hp)
  | .p o => (semP ρ ρp o).map fun v => (v, H)
  | .r (.call f args) => semC C H id f (args.map ρ)
  | .r (.callv x args) => match ρ x with
    | .val (.fn f caps) => semC C H id f (args.map ρ ++ caps.map .val)
    | .clo f caps => semC C H id f (args.map ρ ++ caps)
    | _ => none
  | .r o => (semR H ρ o).map fun v => (v, H)
  | .a o => if H id ≠ none then none else (semA C H ρ id o).map fun (x, b) => (x, upd H id (some b))
  | .w o => semW C H ρ ns id o

end Go.AI
