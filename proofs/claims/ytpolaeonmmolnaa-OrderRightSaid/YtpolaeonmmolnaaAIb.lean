/- The operations, read abstractly: what each comes to, and out of which of the model's operations it is made. -/
import Derived.Test.YtpolaeonmmolnaaAIa
namespace Go.AI
set_option linter.unusedVariables false
set_option linter.unusedSimpArgs false

inductive Opd where
  | t (n : Nat)
  | c (d : DV)
  deriving Inhabited

/-- What only computes. -/
inductive POp where
  | mv (x : Opd)
  | pick (c a b : Opd)
  | bin (op : BinOp) (x y : Opd)
  | eqs (ks : List Nat) (neg : Bool) (x y : Opd)
  | eqb (neg : Bool) (x y : Opd)
  | eqn (neg : Bool) (x : Opd)
  | un (op : UnOp) (x : Opd)
  | conv (k : IntKind) (x : Opd)
  | build (zero : List DV) (parts : List (Nat × Nat × Opd))
  | field (o n : Nat) (agg : Bool) (x : Opd)
  | idxS (x i : Opd)
  | idxA (len s : Nat) (agg : Bool) (x i : Opd)
  | slS (x : Opd) (lo hi : Option Opd)
  | foff (o : Nat) (x : Opd)
  | aoff (len s : Nat) (x i : Opd)
  | soff (s : Nat) (x i : Opd)
  | slice (s : Nat) (x : Opd) (lo hi mx : Option Opd)
  | chk (x : Opd)
  | ext (x : Opd) (i : Nat)
  | len (x : Opd)
  | lenS (x : Opd)
  | lenc (n : Nat)
  | mnx (gt : Bool) (x : Opd) (l : List Opd)
  | mkf (f : FuncId) (caps : List Opd)

/-- What reads, too. -/
inductive ROp where
  | load (n : Nat) (agg : Bool) (x : Opd)
  | b2s (x : Opd)
  | s2b (x : Opd)
  | call (f : FuncId) (args : List Opd)
  | callv (x : Opd) (args : List Opd)

/-- What makes a block. -/
inductive AlOp where
  | alloc (zero : List DV)
  | bx (x : Opd)
  | bsl (s len : Nat) (zero : List DV) (parts : List (Nat × Opd))
  | mks (s bytes : Nat) (zero : List DV) (len cap : Opd)

/-- What writes. -/
inductive WOp where
  | store (n : Nat) (x v : Opd)
  | app (s bytes : Nat) (str : Bool) (x y : Opd)
  | cpy (s : Nat) (x y : Opd)
  | s2s (x : Opd)

inductive AOp where
  | p (o : POp)
  | r (o : ROp)
  | a (o : AlOp)
  | w (o : WOp)

structure AIns where
  dst : Option Nat
  op : AOp
  guard : Option (Nat × Bool)

inductive ACode where
  | skip
  | region (ops : List AIns)
  | draw (ops : List AIns)
  | drawA (ops : List AIns) (cl needs : List (Nat × Nat))
  | seq (a b : ACode)
  | cond (c : Opd) (a b : ACode)
  | block (id : Nat) (body : ACode)
  | loop (body : ACode)
  | exit (id : Nat)
  | ret

/-! ### What operations come to -/

def AV.cells : AV → Option (List AV)
  | .agg l => some l
  | .val (.agg l) => some (l.map .val)
  | .val (.tup _) => none
  | .val d => some [.val d]
  | .box id o => some [.box id o]
  | .elt id i o => some [.elt id i o]
  | .row id s o n => some [.row id s o n]
  | .clo f l => some [.clo f l]
  | _ => none

def ofCells (agg : Bool) (l : List AV) : Option AV :=
  if agg then some (.agg l) else match l with
    | [x] => some x
    | _ => none

def ofDCells (agg : Bool) (l : List DV) : Option AV :=
  if agg then some (.val (.agg l)) else match l with
    | [x] => some (.val x)
    | _ => none

def splice {α : Type} (l : List α) (o : Nat) (xs : List α) : List α := l.take o ++ xs ++ l.drop (o + xs.length)

/-- The number that an integer is. -/
def AV.num : AV → Option Int
  | .val (.int _ n) => some n
  | _ => none

def binD (op : BinOp) : DV → DV → Option DV
  | .int k a, .int k' b =>
    match op with
    | .shl => if 0 ≤ b then some (.int k (k.wrap (a * 2 ^ (min b.toNat k.bits)))) else none
    | .shr => if 0 ≤ b then some (.int k (a.fdiv (2 ^ (min b.toNat k.bits)))) else none
    | _ =>
      if k ≠ k' then none else
      match op with
      | .add => some (.int k (k.wrap (a + b)))
      | .sub => some (.int k (k.wrap (a - b)))
      | .mul => some (.int k (k.wrap (a * b)))
      | .quo => if b = 0 then none else some (.int k (k.wrap (a.tdiv b)))
      | .rem => if b = 0 then none else some (.int k (a.tmod b))
      | .and => some (.int k (bits .and k a b))
      | .or => some (.int k (bits .or k a b))
      | .xor => some (.int k (bits .xor k a b))
      | .andNot => some (.int k (bits .andNot k a b))
      | .eql => some (.bool (a == b))
      | .neq => some (.bool (a != b))
      | .lss => some (.bool (decide (a < b)))
      | .leq => some (.bool (decide (a ≤ b)))
      | .gtr => some (.bool (decide (a > b)))
      | .geq => some (.bool (decide (a ≥ b)))
      | _ => none
  | .str a, .str b =>
    match op with
    | .add => if a.size + b.size ≤ 9223372036854775807 then some (.str (a ++ b)) else none
    | .eql => some (.bool (decide (a = b)))
    | .neq => some (.bool (!decide (a = b)))
    | .lss => some (.bool (Op.bytesLess a.toList b.toList))
    | .leq => some (.bool (Op.bytesLess a.toList b.toList || decide (a = b)))
    | .gtr => some (.bool (!(Op.bytesLess a.toList b.toList || decide (a = b))))
    | .geq => some (.bool (!(Op.bytesLess a.toList b.toList)))
    | _ => none
  | _, _ => none

def unD : UnOp → DV → Option DV
  | .not, .bool b => some (.bool (!b))
  | .neg, .int k n => some (.int k (k.wrap (0 - n)))
  | .xor, .int k n => some (.int k (bits .xor k (if k.signed then -1 else k.max) n))
  | _, _ => none

/-- Are two cells of a kind (0: bools, 1: numbers, 2: strings) the same? -/
def eqD : Nat → DV → DV → Option Bool
  | 1, .int k a, .int k' b => if k = k' then some (a == b) else none
  | 0, .bool a, .bool b => some (a == b)
  | 2, .str a, .str b => some (decide (a = b))
  | _, _, _ => none

def eqDs : List Nat → List DV → List DV → Option Bool
  | [], [], [] => some true
  | k :: ks, a :: l, b :: m => match eqD k a b, eqDs ks l m with
    | some x, some y => some (x && y)
    | _, _ => none
  | _, _, _ => none

/-- The data that cells are, if they are all data. -/
def datas : List AV → Option (List DV)
  | [] => some []
  | .val d :: l => (datas l).map (d :: ·)
  | _ => none

def AV.dcells (x : AV) : Option (List DV) := x.cells.bind datas

/-- The data that a row is. -/
def AV.aggD : AV → Option (List DV)
  | .agg l => datas l
  | .val (.agg l) => some l
  | _ => none

def optNum (ρ : Opd → AV) (d : Int) : Option Opd → Option Int
  | some m => (ρ m).num
  | none => some d

/-- The bounds of a slice: from, to, up to. -/
def bounds (n : Nat) (ρ : Opd → AV) (lo hi mx : Option Opd) : Option (Nat × Nat × Nat) :=
  match optNum ρ n mx, optNum ρ n hi, optNum ρ 0 lo with
  | some m, some h, some l => if 0 ≤ l ∧ l ≤ h ∧ h ≤ m ∧ m ≤ (n : Int) then some (l.toNat, h.toNat, m.toNat) else none
  | _, _, _ => none

def pickV (t : Bool) : AV → AV → AV
  | .val (.bool a), .val (.bool b) => .val (.bool (bif t then a else b))
  | x, y => bif t then x else y

/-- A value that is there only if something holds, where this holds. -/
def unw (g : Bool) : AV → AV
  | .may c x => if (!g || c) = true then x else .junk
  | x => x

def minmax (gt : Bool) : Int → List AV → Option Int
  | a, [] => some a
  | a, .val (.int _ b) :: l => minmax gt (if gt then (if b > a then b else a) else (if b < a then b else a)) l
  | _, _ => none

def parts (ρ : Opd → AV) : List AV → List (Nat × Nat × Opd) → Option (List AV)
  | cs, [] => some cs
  | cs, (o, n, x) :: l => match (ρ x).cells with
    | some xs => if xs.length = n ∧ o + n ≤ cs.length then parts ρ (splice cs o xs) l else none
    | none => none

/-- An address moved on. -/
def AV.moved (n : Nat) : AV → Option AV
  | .box id i => some (.box id (i + n))
  | .elt id i j => some (.elt id i (j + n))
  | .val (.pt cs) => some (.val (.pt (cs.drop n)))
  | _ => none

/-- A part of a row. -/
def AV.part (o n : Nat) (agg : Bool) : AV → Option AV
  | .agg l => if o + n ≤ l.length then ofCells agg ((l.drop o).take n) else none
  | .val (.agg l) => if o + n ≤ l.length then ofDCells agg ((l.drop o).take n) else none
  | _ => none

def semP (ρ : Opd → AV) (ρp : Bool → Opd → AV) : POp → Option AV
  | .mv x => some (ρ x)
  | .pick c a b => match ρ c with
    | .val (.bool t) => some (pickV t (ρp t a) (ρp (!t) b))
    | _ => none
  | .bin op x y => match ρ x, ρ y with
    | .val a, .val b => (binD op a b).map .val
    | _, _ => none
  | .eqs ks neg x y => match (ρ x).aggD, (ρ y).aggD with
    | some a, some b => (eqDs ks a b).map fun t => .val (.bool (if neg then !t else t))
    | _, _ => none
  | .eqb neg x y => match ρ x, ρ y with
    | .val (.bool a), .val (.bool b) => some (.val (.bool (if neg then a != b else a == b)))
    | _, _ => none
  | .eqn neg x => match ρ x with
    | .val .nilp => some (.val (.bool !neg))
    | .val (.pt _) | .box _ _ | .elt _ _ _ => some (.val (.bool neg))
    | _ => none
  | .un op x => match ρ x with
    | .val d => (unD op d).map .val
    | _ => none
  | .conv k x => match ρ x with
    | .val (.int _ n) => some (.val (.int k (k.wrap n)))
    | _ => none
  | .build zero ps => (parts ρ (zero.map .val) ps).map .agg
  | .field o n agg x => (ρ x).part o n agg
  | .idxS x i => match ρ x, (ρ i).num with
    | .val (.str s), some n => if 0 ≤ n ∧ n < (s.size : Int) then some (.val (.int .u8 (s.data.toList.getD n.toNat 0).toNat)) else none
    | _, _ => none
  | .idxA len s agg x i => match (ρ i).num with
    | some n => if 0 ≤ n ∧ n < (len : Int) then (ρ x).part (n.toNat * s) s agg else none
    | _ => none
  | .slS x lo hi => match ρ x with
    | .val (.str s) => (bounds s.size ρ lo hi none).map fun (l, h, _) => .val (.str (s.extract l h))
    | _ => none
  | .foff o x => (ρ x).moved o
  | .aoff len s x i => match (ρ i).num with
    | some n => if 0 ≤ n ∧ n < (len : Int) then (ρ x).moved (n.toNat * s) else none
    | _ => none
  | .soff s x i => match (ρ i).num with
    | some n => match ρ x with
      | .val (.sl s' l) => if s' = s ∧ 0 ≤ n then (match l[n.toNat]? with | some e => some (.val (.pt e)) | none => none) else none
      | .row id s' o len => if s' = s ∧ 0 ≤ n ∧ n < (len : Int) then some (.elt id (o + n.toNat) 0) else none
      | _ => none
    | _ => none
  | .slice s x lo hi mx => match ρ x with
    | .val (.sl s' l) => if s' = s then (bounds l.length ρ lo hi mx).map fun (a, h, m) => if mx.isSome ∧ a = m then .val (.nils s) else .val (.sl s ((l.take h).drop a)) else none
    | .val (.nils s') => (bounds 0 ρ lo hi mx).map fun _ => .val (.nils s')
    | .row id s' o n => if mx.isSome ∨ s' ≠ s then none else (bounds n ρ lo hi none).map fun (a, h, _) => .row id s (o + a) (h - a)
    | _ => none
  | .chk x => match ρ x with
    | .val (.pt cs) => some (.val (.pt cs))
    | .box id o => some (.box id o)
    | .elt id i o => some (.elt id i o)
    | .val (.fn f l) => some (.val (.fn f l))
    | .clo f l => some (.clo f l)
    | _ => none
  | .ext x i => match ρ x with
    | .tup l => l[i]?
    | .val (.tup l) => (l[i]?).map .val
    | _ => none
  | .len x => match ρ x with
    | .val (.sl _ l) => some (.val (.int .i64 l.length))
    | .val (.nils _) => some (.val (.int .i64 0))
    | .row _ _ _ n => some (.val (.int .i64 n))
    | _ => none
  | .lenS x => match ρ x with
    | .val (.str s) => some (.val (.int .i64 s.size))
    | _ => none
  | .lenc n => some (.val (.int .i64 n))
  | .mnx gt x l => match ρ x with
    | .val (.int k a) => (minmax gt a (l.map ρ)).map fun n => .val (.int k n)
    | _ => none
  | .mkf f caps => some (.clo f (caps.map ρ))

end Go.AI
