/- An abstract reading of Go code: part LD of the library. No condition. -/
import Derived.Test.YtganbdbpkoggmaaDoorLC
set_option linter.unusedVariables false
set_option linter.unusedSimpArgs false
namespace Go.AI
def bX {α ρ : Type} (x : Option α) (f : α->Option ρ) : Option ρ := x.bind f
def cX {ρ : Type} (t : Bool) (a b : Option ρ) : Option ρ := bif t then a else b
noncomputable def lX {τ ε : Type} (f : τ->Option (τ ⊕ ε)) (t : τ) : Option ε := qb9 f t
def eX {α ρ : Type} (f : α->Option ρ) (x : α ⊕ ρ) : Option ρ := match x with
 | .inl v => f v
 | .inr r => some r
def mX {α ρ : Type} (x : Option ρ) : Option (α ⊕ ρ) := x.map .inr
def El : Sh->Type
 | .bool => Bool
 | .int _ => Int
 | .str => ByteArray
 | .ptr _ => Empty
 | .slice _ s => List (El s)
 | .nil => Unit
 | .cons a b => El a × El b
def qe1 : (s : Sh)->El s->List DV
 | .bool, b => [.bool b]
 | .int k, n => [.int k n]
 | .str, x => [.str x]
 | .ptr _, x => nomatch x
 | .slice n s, l => [DV.norm1 (.sl n (l.map (qe1 s)))]
 | .nil, _ => []
 | .cons a b, x => qe1 a x.1 ++ qe1 b x.2
inductive TV where
 | lit (b : Bool)
 | d (x : DV)
 | nil
 | sl (s : Sh) (l : List (El s))
 | own (i : Nat)
 | row (i o n : Nat)
 | win (i s o n : Nat)
 | agg (l : List TV)
 | tup (l : List TV)
 | box (i o : Nat)
 | elt (i j o : Nat)
 | pt (s : Sh) (x : El s) (o : Nat)
 | clo (f : FuncId) (caps : List TV)
 | undef
 | junk
inductive TB where
 | box (cells : List TV)
 | row (s : Sh) (l : List (El s)) (own : Bool)
 | fns (s : Nat) (l : List (List TV))
 | dead
abbrev qd9 := List (Nat × TV)
abbrev HpT := List (Nat × TB)
abbrev KT (ρ : Type) := qd9->HpT->Nat->Option ρ
def qa5 : qd9->Nat->TV
 | [], _ => .junk
 | (k, x) :: l, t => bif Nat.beq k t then x else qa5 l t
def qa0 : HpT->Nat->Option TB
 | [], _ => none
 | (k, x) :: l, t => bif Nat.beq k t then some x else qa0 l t
def qeH : HpT->Nat->TB->HpT
 | [], _, _ => []
 | (k, x) :: l, t, b => bif Nat.beq k t then (k, b) :: l else (k, x) :: qeH l t b
section
variable {ρ : Type}
def fT (x : TV) (K : TV->Option ρ) : Option ρ := match x with
 | .lit b => K (.lit b)
 | .d x => K (.d x)
 | .nil => K .nil
 | .sl s l => K (.sl s l)
 | .own i => K (.own i)
 | .row i o n => K (.row i o n)
 | .win i s o n => K (.win i s o n)
 | .agg l => K (.agg l)
 | .tup l => K (.tup l)
 | .box i o => K (.box i o)
 | .elt i j o => K (.elt i j o)
 | .pt s x o => K (.pt s x o)
 | .clo f l => K (.clo f l)
 | .undef => K .undef
 | .junk => K .junk
def fU (x : TV) (K : TV->Option ρ) : Option ρ := match x with
 | .undef => K .junk
 | x => K x
def fL : List TV->(List TV->Option ρ)->Option ρ
 | [], K => K []
 | x :: l, K => fT x fun x => fL l fun l => K (x :: l)
def fS {α : Type} : List α->(List α->Option ρ)->Option ρ
 | [], K => K []
 | x :: l, K => fS l fun l => K (x :: l)
def fH : HpT->(HpT->Option ρ)->Option ρ
 | [], K => K []
 | (k, x) :: l, K => fH l fun l => K ((k, x) :: l)
end
def asB : TV->Option Bool
 | .d (.bool b) => some b
 | .lit b => some b
 | _ => none
def asI : TV->Option Int
 | .d (.int _ n) => some n
 | _ => none
def asS : TV->Option ByteArray
 | .d (.str s) => some s
 | _ => none
def noLit : TV->TV
 | .lit b => .d (.bool b)
 | .undef => .junk
 | x => x
def zk8 (d : DV) : TV := match d with
 | .fn f [] => .clo f []
 | .nils _ => .nil
 | d => (match d.single with
  | true => .d d
  | false => .junk)
def ofD (d : DV) : TV := match d with
 | .agg l => .agg (l.map zk8)
 | .tup l => .tup (l.map zk8)
 | d => zk8 d
def evT (e : qd9) : Opd->TV
 | .t n => noLit (qa5 e n)
 | .c d => ofD d
def qnK (e : qd9) : Opd->TV
 | .t n => qa5 e n
 | .c d => ofD d
def encT : (s : Sh)->El s->List TV
 | .bool, b => [.d (.bool b)]
 | .int k, n => [.d (.int k n)]
 | .str, x => [.d (.str x)]
 | .ptr _, x => nomatch x
 | .slice _ s, l => [.sl s l]
 | .nil, _ => []
 | .cons a b, x => encT a x.1 ++ encT b x.2
def qwV : (a b : Sh)->Option (PLift (a = b))
 | .bool, .bool => some ⟨rfl⟩
 | .str, .str => some ⟨rfl⟩
 | .nil, .nil => some ⟨rfl⟩
 | .int k, .int k' => if h : k = k' then some ⟨by rw [h]⟩ else none
 | .ptr a, .ptr b => match qwV a b with
  | some h => some ⟨by rw [h.down]⟩
  | none => none
 | .slice n a, .slice m b => match qwV a b with
  | some h => if hn : n = m then some ⟨by rw [h.down, hn]⟩ else none
  | none => none
 | .cons a b, .cons a' b' => match qwV a a', qwV b b' with
  | some h, some h' => some ⟨by rw [h.down, h'.down]⟩
  | _, _ => none
 | _, _ => none
def Sh.fine : Sh->Bool
 | .slice n s => Nat.beq n s.size && s.fine
 | .cons a b => a.fine && b.fine
 | .ptr s => s.fine
 | _ => true
def cK {ρ : Type} {s' s : Sh} (h : s' = s) (l : List (El s')) (K : List (El s)->Option ρ) : Option ρ := Eq.rec (motive := fun x _ => (List (El x)->Option ρ)->Option ρ) (fun K => K l) h K
def rowK {ρ : Type} (H : HpT) (s : Sh) (x : TV) (K : List (El s)->List Nat->Option ρ) : Option ρ := match x with
 | .sl s' l => (match qwV s' s with
  | some h => cK h.down l fun l => K l []
  | none => none)
 | .nil => K [] []
 | .own i => (match qa0 H i with
  | some (.row s' l w) => (match qwV s' s with
   | some h => cK h.down l fun l => K l (bif w then [i] else [])
   | none => none)
  | _ => none)
 | .row i o n => (match qa0 H i with
  | some (.row s' l w) => (match qwV s' s with
   | some h => cK h.down l fun l => K ((l.drop o).take n) (bif w then [i] else [])
   | none => none)
  | _ => none)
 | _ => none
def intsT (k : IntKind) : List TV->Option (List (El (.int k)))
 | [] => some []
 | .d (.int k' n) :: l => (match decEq k' k, intsT k l with
  | .isTrue _, some m => some (n :: m)
  | _, _ => none)
 | _ => none
def winK {ρ : Type} (H : HpT) (s : Sh) (i s' o n : Nat) (K : List (El s)->List Nat->Option ρ) : Option ρ := match s, K with
 | .int k, K => (match qa0 H i with
  | some (.box cells) => (match Nat.beq s' 1 && Nat.ble (o + n) cells.length && Nat.ble cells.length 90, intsT k cells with
   | true, some l => fS ((l.drop o).take n) fun l => K l [i]
   | _, _ => none)
  | _ => none)
 | _, _ => none
def rowW {ρ : Type} (H : HpT) (s : Sh) (x : TV) (K : List (El s)->List Nat->Option ρ) : Option ρ := match x with
 | .win i s' o n => winK H s i s' o n K
 | x => rowK H s x K
def qtM {ρ : Type} (H : HpT) : (s : Sh)->List TV->(El s->List Nat->List TV->Option ρ)->Option ρ
 | .bool, cs, K => match cs with
  | x :: r => (match asB x with
   | some b => K b [] r
   | none => none)
  | [] => none
 | .int k, cs, K => match cs with
  | .d (.int k' n) :: r => (match decEq k' k with
   | .isTrue _ => K n [] r
   | .isFalse _ => none)
  | _ => none
 | .str, cs, K => match cs with
  | x :: r => (match asS x with
   | some b => K b [] r
   | none => none)
  | [] => none
 | .ptr _, _, _ => none
 | .slice n s, cs, K => match cs with
  | x :: r => (match Nat.beq n s.size with
   | true => rowW H s x fun l ids => K l ids r
   | false => none)
  | [] => none
 | .nil, cs, K => K () [] cs
 | .cons a b, cs, K => qtM H a cs fun x i r => qtM H b r fun y j r => K (x, y) (i ++ j) r
def qiE : TV->Option (List TV)
 | .lit b => some [.d (.bool b)]
 | .agg l => some l
 | .tup _ => none
 | .undef => none
 | .junk => none
 | x => some [x]
def qp4 {ρ : Type} (agg : Bool) (l : List TV) (K : TV->Option ρ) : Option ρ := match agg with
 | true => fL l fun l => K (.agg l)
 | false => (match l with
  | [x] => fT x K
  | _ => none)
def idxB (s : ByteArray) (n : Int) : Option Int := if 0<=n/\n < (s.size : Int) then some ((s.data.toList.getD n.toNat 0).toNat : Int) else none
def subS (s : ByteArray) (lo hi : Int) : Option ByteArray := if 0<=lo/\lo<=hi/\hi<=(s.size : Int) then some (s.extract lo.toNat hi.toNat) else none
def qj3 {α : Type} (l : List α) (n : Int) : Option α := if 0<=n then l[n.toNat]? else none
def qp0 {α : Type} (l : List α) (lo hi : Int) : Option (List α) := if 0<=lo/\lo<=hi/\hi<=(l.length : Int) then some ((l.take hi.toNat).drop lo.toNat) else none
def mkS (l : List Int) : ByteArray := ⟨(l.map fun n => UInt8.ofNat n.toNat).toArray⟩
def bytesOf (b : ByteArray) : List Int := b.data.toList.map fun x => (x.toNat : Int)
def inI (n : Int) (k : Nat) : Bool := decide (0<=n/\n < (k : Int))
def qoP (lo hi : Int) (k : Nat) : Bool := decide (0<=lo/\lo<=hi/\hi<=(k : Int))
def qn7 {α : Type} (l ys : List α) (bytes : Nat) : Option (List α) := if (l.length + ys.length) * bytes<=140737488355328/\l.length + ys.length<=maxLen then some (l ++ ys) else none
def fitsM (bytes : Nat) (n c : Int) : Bool := decide (0<=n/\n = c/\(bytes : Int) * n<=281474976710656/\n<=4611686018427387904)
def nonz (n : Nat) : Bool := decide (n ≠ 0)
def insX {α : Type} (l : List α) (n : Int) (ys : List α) (bytes : Nat) : Option (List α) := if ys.length ≠ 0/\0<=n/\n<=(l.length : Int)/\(l.length + ys.length) * bytes<=70368744177664/\l.length + ys.length<=maxLen then some (l.take n.toNat ++ ys ++ l.drop n.toNat) else none
def delX {α : Type} (l : List α) (n m : Int) : Option (List α) := if 0<=n/\n<=m/\m<=(l.length : Int)/\l.length<=maxLen then some (l.take n.toNat ++ l.drop m.toNat) else none
def growX (n : Int) (bytes : Nat) : Bool := decide (0<=n/\n * (bytes : Int)<=70368744177664/\n<=(maxLen : Int))
def repS : Nat->Sh->Sh
 | 0, _ => .nil
 | n + 1, s => .cons s (repS n s)
def arrB : (n : Nat)->List Int->Option (El (repS n (.int .u8)))
 | 0, _ => some ()
 | _ + 1, [] => none
 | n + 1, x :: l => (match arrB n l with
  | some y => some (x, y)
  | none => none)
def zg5 : TV->Option Int
 | .d (.int .i64 n) => some n
 | _ => none
def binK {ρ : Type} (op : BinOp) (x y : TV) (K : TV->Option ρ) : Option ρ := match x, y with
 | .d a, .d b => (match op, a, b with
  | .quo, .int k a, .int k' b => (match decEq k k' with
   | .isTrue _ => cX (decide (b = 0)) none (K (.d (.int k (k.wrap (a.tdiv b)))))
   | .isFalse _ => none)
  | .rem, .int k a, .int k' b => (match decEq k k' with
   | .isTrue _ => cX (decide (b = 0)) none (K (.d (.int k (a.tmod b))))
   | .isFalse _ => none)
  | .shl, .int k a, .int _ b => cX (decide (0<=b)) (K (.d (.int k (k.wrap (a * 2 ^ (min b.toNat k.bits)))))) none
  | .shr, .int k a, .int _ b => cX (decide (0<=b)) (K (.d (.int k (a.fdiv (2 ^ (min b.toNat k.bits)))))) none
  | .add, .str a, .str b => cX (decide (a.size + b.size<=9223372036854775807)) (K (.d (.str (a ++ b)))) none
  | _, _, _ => (match qsE op a b with
   | some r => K (.d r)
   | none => none))
 | _, _ => none
def qzW : List TV->Option (List DV)
 | [] => some []
 | .d x :: l => (match qzW l with
  | some m => some (x :: m)
  | none => none)
 | _ => none
def aggDT : TV->Option (List DV)
 | .agg l => qzW l
 | _ => none
def mmT (gt : Bool) : Int->List TV->Option Int
 | a, [] => some a
 | a, x :: l => (match asI x with
  | some b => mmT gt (if gt then (if b > a then b else a) else (if b < a then b else a)) l
  | none => none)
def qzX (E : Opd->TV) : List TV->List (Nat × Nat × Opd)->Option (List TV)
 | cs, [] => some cs
 | cs, (o, n, x) :: l => match qiE (E x) with
  | some xs => (match Nat.beq xs.length n && Nat.ble (o + n) cs.length with
   | true => qzX E (splice cs o xs) l
   | false => none)
  | none => none
def qtN (E : Opd->TV) (d : Int) : Option Opd->Option Int
 | some m => asI (E m)
 | none => some d
def qdG {ρ : Type} (l : List TV) (o n : Nat) (agg : Bool) (K : TV->Option ρ) : Option ρ := match Nat.ble (o + n) l.length with
 | true => qp4 agg ((l.drop o).take n) K
 | false => none
def qr7 {ρ : Type} (H : HpT) (E R : Opd->TV) (op : POp) (K : TV->Option ρ) : Option ρ := match op with
 | .mv x => (match R x with
  | .lit b => K (.lit b)
  | _ => fT (E x) K)
 | .pick c a b => (match R c with
  | .lit true => fT (E a) K
  | .lit false => fT (E b) K
  | .d (.bool t) => (match asB (E a), asB (E b) with
   | some x, some y => K (.d (.bool (bif t then x else y)))
   | _, _ => none)
  | _ => none)
 | .bin op x y => binK op (E x) (E y) K
 | .eqs ks neg x y => (match aggDT (E x), aggDT (E y) with
  | some a, some b => (match qnV ks a b with
   | some t => (match neg with
    | true => K (.d (.bool (!t)))
    | false => K (.d (.bool t)))
   | none => none)
  | _, _ => none)
 | .eqb neg x y => (match asB (E x), asB (E y) with
  | some a, some b => (match neg with
   | true => K (.d (.bool (a != b)))
   | false => K (.d (.bool (a == b))))
  | _, _ => none)
 | .eqn neg x => (match E x with
  | .d .nilp => K (.lit (!neg))
  | .box _ _ => K (.lit neg)
  | .elt _ _ _ => K (.lit neg)
  | .pt _ _ _ => K (.lit neg)
  | _ => none)
 | .un op x => (match E x with
  | .d a => (match unD op a with
   | some r => K (.d r)
   | none => none)
  | _ => none)
 | .conv k x => (match asI (E x) with
  | some n => K (.d (.int k (k.wrap n)))
  | none => none)
 | .build zero ps => (match qzX E (zero.map zk8) ps with
  | some l => fL l fun l => K (.agg l)
  | none => none)
 | .field o n agg x => (match E x with
  | .agg l => qdG l o n agg K
  | _ => none)
 | .idxS x i => (match asS (E x), asI (E i) with
  | some s, some n => bX (idxB s n) fun b => K (.d (.int .u8 b))
  | _, _ => none)
 | .idxA len s agg x i => (match E x, asI (E i) with
  | .agg l, some n => (match inI n len with
   | true => qdG l (n.toNat * s) s agg K
   | false => none)
  | _, _ => none)
 | .slS x lo hi => (match asS (E x) with
  | some s => (match qtN E 0 lo, qtN E s.size hi with
   | some a, some b => bX (subS s a b) fun r => K (.d (.str r))
   | _, _ => none)
  | none => none)
 | .foff o x => (match E x with
  | .box i j => K (.box i (j + o))
  | .elt i j k => K (.elt i j (k + o))
  | .pt s x k => K (.pt s x (k + o))
  | _ => none)
 | .aoff len s x i => (match asI (E i) with
  | some n => (match inI n len with
   | true => (match E x with
    | .box i j => K (.box i (j + n.toNat * s))
    | .elt i j k => K (.elt i j (k + n.toNat * s))
    | .pt sh x k => K (.pt sh x (k + n.toNat * s))
    | _ => none)
   | false => none)
  | none => none)
 | .soff s x i => (match asI (E i) with
  | some n => (match E x with
   | .sl sh l => (match Nat.beq sh.size s with
    | true => bX (qj3 l n) fun x => K (.pt sh x 0)
    | false => none)
   | .own i => (match qa0 H i with
    | some (.row sh l _) => (match Nat.beq sh.size s with
     | true => cX (inI n l.length) (K (.elt i n.toNat 0)) none
     | false => none)
    | _ => none)
   | .row i o m => (match qa0 H i with
    | some (.row sh _ _) => (match Nat.beq sh.size s with
     | true => cX (inI n m) (K (.elt i (o + n.toNat) 0)) none
     | false => none)
    | _ => none)
   | .win i s' o m => (match Nat.beq s' s && inI n m with
    | true => K (.elt i (o + n.toNat) 0)
    | false => none)
   | _ => none)
  | none => none)
 | .slice s x lo hi mx => (match E x with
  | .sl sh l => (match Nat.beq sh.size s with
   | true => (match mx with
    | none => (match qtN E 0 lo, qtN E l.length hi with
     | some a, some b => bX (qp0 l a b) fun l => K (.sl sh l)
     | _, _ => none)
    | some m => (match hi with
     | some hi => (match qtN E 0 lo, asI (E hi), asI (E m) with
      | some a, some b, some m => (match decide (a = 0/\b = 0/\m = 0) with
       | true => K .nil
       | false => none)
      | _, _, _ => none)
     | none => none))
   | false => none)
  | .nil => (match qtN E 0 lo, qtN E 0 hi, qtN E 0 mx with
   | some a, some b, some m => cX (decide (0<=a/\a<=b/\b<=m/\m<=0)) (K .nil) none
   | _, _, _ => none)
  | .own i => (match qa0 H i, mx with
   | some (.row sh l _), none => (match Nat.beq sh.size s with
    | true => (match qtN E 0 lo, qtN E l.length hi with
     | some a, some b => cX (qoP a b l.length) (K (.row i a.toNat (b.toNat - a.toNat))) none
     | _, _ => none)
    | false => none)
   | _, _ => none)
  | .row i o n => (match qa0 H i, mx with
   | some (.row sh _ _), none => (match Nat.beq sh.size s with
    | true => (match qtN E 0 lo, qtN E n hi with
     | some a, some b => cX (qoP a b n) (K (.row i (o + a.toNat) (b.toNat - a.toNat))) none
     | _, _ => none)
    | false => none)
   | _, _ => none)
  | .win i s' o n => (match mx, qtN E 0 lo, qtN E n hi with
   | none, some a, some b => (match Nat.beq s' s && qoP a b n with
    | true => K (.win i s' (o + a.toNat) (b.toNat - a.toNat))
    | false => none)
   | _, _, _ => none)
  | _ => none)
 | .chk x => (match E x with
  | .box i j => K (.box i j)
  | .elt i j k => K (.elt i j k)
  | .pt s x k => K (.pt s x k)
  | .clo f l => K (.clo f l)
  | _ => none)
 | .ext x i => (match E x with
  | .tup l => (match l[i]? with
   | some y => fT y K
   | none => none)
  | _ => none)
 | .len x => (match E x with
  | .sl _ l => K (.d (.int .i64 l.length))
  | .nil => K (.d (.int .i64 0))
  | .own i => (match qa0 H i with
   | some (.row _ l _) => K (.d (.int .i64 l.length))
   | _ => none)
  | .row i _ n => (match qa0 H i with
   | some (.row _ _ _) => K (.d (.int .i64 n))
   | _ => none)
  | .win _ _ _ n => K (.d (.int .i64 n))
  | _ => none)
 | .lenS x => (match asS (E x) with
  | some s => K (.d (.int .i64 s.size))
  | none => none)
 | .lenc n => K (.d (.int .i64 n))
 | .mnx gt x l => (match E x with
  | .d (.int k a) => (match mmT gt a (l.map E) with
   | some n => K (.d (.int k n))
   | none => none)
  | _ => none)
 | .mkf f caps => fL (caps.map E) fun l => K (.clo f l)
 | .s2a n x => (match E x with
  | .sl sh l => (match qwV sh (.int .u8), Nat.blt 0 n with
   | some h, true => cK h.down l fun l => bX (arrB n l) fun x => K (.pt (repS n (.int .u8)) x 0)
   | _, _ => none)
  | _ => none)
def qk3 : List Sh->Sh
 | [] => .nil
 | a :: l => .cons a (qk3 l)
def qiW : List Sh->Sh
 | [r] => r
 | l => qk3 l
structure TCn where
 args : List Sh
 res : List Sh
 g : El (qk3 args)->Option (El (qiW res))
structure Cx where
 ct : FuncId->Option TCn
 sq : FuncId->Bool
 lb : FuncId->Option (LibK × Sh)
 mt : FuncId->Option TCn
def isAgg : Sh->Bool
 | .nil => true
 | .cons _ _ => true
 | _ => false
def oneK {ρ : Type} (s : Sh) (x : El s) (K : TV->Option ρ) : Option ρ := qp4 (isAgg s) (encT s x) K
def tupK {ρ : Type} : (l : List Sh)->El (qk3 l)->(List TV->Option ρ)->Option ρ
 | [], _, K => K []
 | s :: l, x, K => oneK s x.1 fun y => tupK l x.2 fun m => K (y :: m)
def resK {ρ : Type} : (l : List Sh)->El (qiW l)->(TV->Option ρ)->Option ρ
 | [], _, K => K (.tup [])
 | [r], x, K => oneK r x K
 | a :: b :: l, x, K => tupK (a :: b :: l) x fun m => K (.tup m)
def qlK {ρ : Type} (H : HpT) : (l : List Sh)->List TV->(El (qk3 l)->List Nat->Option ρ)->Option ρ
 | [], xs, K => match xs with
  | [] => K () []
  | _ => none
 | s :: l, xs, K => match xs with
  | [] => none
  | x :: xs => (match isAgg s with
   | true => (match x, Nat.ble s.size 64 with
    | .agg cs, true => qtM H s cs fun a i r => (match r with
     | [] => qlK H l xs fun b j => K (a, b) (i ++ j)
     | _ => none)
    | _, _ => none)
   | false => qtM H s [x] fun a i r => (match r with
    | [] => qlK H l xs fun b j => K (a, b) (i ++ j)
    | _ => none))
def outK {ρ : Type} (H : HpT) : (l : List Sh)->TV->(El (qiW l)->Option ρ)->Option ρ
 | [], x, K => match x with
  | .tup [] => K ()
  | _ => none
 | [s], x, K => qlK H [s] [x] fun a _ => K a.1
 | a :: b :: l, x, K => match x with
  | .tup xs => (match Nat.ble xs.length 20 with
   | true => qlK H (a :: b :: l) xs fun v _ => K v
   | false => none)
  | _ => none
def isD : TV->Bool
 | .d _ => true
 | _ => false
def frzB1 : HpT->Nat->Option HpT
 | [], _ => none
 | (k, b) :: l, i => match Nat.beq k i with
  | true => (match b with
   | .row s m _ => some ((k, .row s m false) :: l)
   | .box cells => (match cells.all isD && Nat.ble cells.length 90 with
    | true => some ((k, .dead) :: l)
    | false => none)
   | _ => none)
  | false => (match frzB1 l i with
   | some l => some ((k, b) :: l)
   | none => none)
def frzB : List Nat->HpT->Option HpT
 | [], h => some h
 | i :: l, h => match frzB1 h i with
  | some h => frzB l h
  | none => none
def qaJ : Sh->Bool
 | .slice _ _ => false
 | .ptr _ => false
 | .cons a b => qaJ a && qaJ b
 | _ => true
def frz1 : HpT->Nat->Option HpT
 | [], _ => none
 | (k, b) :: l, i => match Nat.beq k i with
  | true => (match b with
   | .row s m _ => some ((k, .row s m false) :: l)
   | _ => none)
  | false => (match frz1 l i with
   | some l => some ((k, b) :: l)
   | none => none)
def frz : List Nat->HpT->Option HpT
 | [], h => some h
 | i :: l, h => match frz1 h i with
  | some h => frz l h
  | none => none
abbrev Inl := (ρ : Type)->FuncId->HpT->List TV->HpT->Nat->(TV->HpT->Nat->Option ρ)->Option ρ
def qwW : TV->Bool
 | .agg _ => false
 | .tup _ => false
 | .undef => false
 | .junk => false
 | _ => true
structure TIns where
 i : AIns
 ty : Option Sh
section
variable {ρ : Type} (X : Cx) (inl : Inl) (dr : Bool) (Hs : HpT)
def libK (k : LibK) (sh : Sh) (args : List TV) (h : HpT) (c : Nat) (K : TV->HpT->Nat->Option ρ) : Option ρ := match sh.fine with
 | false => none
 | true => (match k, args with
  | .clone s bytes, [x] => (match Nat.beq sh.size s with
   | true => rowK (h ++ Hs) sh x fun l _ => bX (qn7 [] l bytes) fun m => K (.own c) ((c, .row sh m true) :: h) (c + 1)
   | false => none)
  | .ins s bytes, [.own i, x, .own j] => (match Nat.beq sh.size s && !(Nat.beq i j) && Nat.blt 0 s, zg5 x, qa0 h i, qa0 (h ++ Hs) j with
   | true, some n, some (.row s1 l true), some (.row s2 m true) => (match qwV s1 sh, qwV s2 sh with
    | some h1, some h2 => cK h1.down l fun l => cK h2.down m fun m => bX (insX l n m bytes) fun r => fH (qeH h i .dead) fun h => K (.own c) ((c, .row sh r true) :: h) (c + 1)
    | _, _ => none)
   | _, _, _, _ => none)
  | .del s, [.own i, x, y] => (match Nat.beq sh.size s && Nat.blt 0 s, zg5 x, zg5 y, qa0 h i with
   | true, some n, some m, some (.row s1 l true) => (match qwV s1 sh with
    | some h1 => cK h1.down l fun l => bX (delX l n m) fun r => fH (qeH h i .dead) fun h => K (.own c) ((c, .row sh r true) :: h) (c + 1)
    | none => none)
   | _, _, _, _ => none)
  | .grow s bytes, [.nil, x] => (match Nat.beq sh.size s && Nat.blt 0 s, zg5 x with
   | true, some n => cX (growX n bytes) (K (.own c) ((c, .row sh [] true) :: h) (c + 1)) none
   | _, _ => none)
  | _, _ => none)
def methK (tc : TCn) (args : List TV) (h : HpT) (c : Nat) (K : TV->HpT->Nat->Option ρ) : Option ρ := match args with
 | .box i 0 :: xs => (match qa0 h i with
  | some (.box cells) => qlK (h ++ Hs) tc.args (.agg cells :: xs) fun a ids => (match Nat.ble xs.length 19, frz ids h with
   | true, some h' => bX (tc.g a) fun v => resK tc.res v fun x => (match qiE x with
    | some cs => (match Nat.beq cs.length cells.length && cs.all qwW with
     | true => fL cs fun cs => fH (qeH h' i (.box cs)) fun h => K (.tup []) h c
     | false => none)
    | none => none)
   | _, _ => none)
  | _ => none)
 | _ => none
def zg6 (f : FuncId) (args : List TV) (h : HpT) (c : Nat) (K : TV->HpT->Nat->Option ρ) : Option ρ := match X.ct f with
 | some tc => qlK (h ++ Hs) tc.args args fun a ids => (match Nat.ble args.length 20 with
  | false => none
  | true => match qaJ (qiW tc.res) with
  | true => bX (tc.g a) fun v => resK tc.res v fun x => K x h c
  | false => (match !dr || (ids.isEmpty || X.sq f) with
   | false => none
   | true => (match (match dr with
    | true => frz ids h
    | false => frzB ids h) with
    | some h' => fH h' fun h' => bX (tc.g a) fun v => resK tc.res v fun x => K x h' c
    | none => none)))
 | none => (match X.lb f with
  | some (k, sh) => libK Hs k sh args h c K
  | none => (match dr with
   | true => none
   | false => (match X.mt f with
    | some tc => methK Hs tc args h c K
    | none => inl ρ f Hs args h c K)))
def zr0 (H : HpT) (E : Opd->TV) (sh : Sh) : List (Nat × Opd)->List (El sh)->(List (El sh)->Option ρ)->Option ρ
 | [], l, K => fS l K
 | (i, x) :: ps, l, K => match qiE (E x) with
  | some cs => qtM H sh cs fun a ids r => (match ids, r, Nat.ble (i + 1) l.length && Nat.ble cs.length 64 with
   | [], [], true => zr0 H E sh ps (l.set i a) K
   | _, _, _ => none)
  | none => none
def qfQ (E : Opd->TV) (h : HpT) (c : Nat) (K : TV->HpT->Nat->Option ρ) : ROp->Option ρ
 | .load n agg x => (match E x with
  | .box i o => (match qa0 (h ++ Hs) i with
   | some (.box cells) => qdG cells o n agg fun x => K x h c
   | _ => none)
  | .pt s x o => qdG (encT s x) o n agg fun x => K x h c
  | .elt i j o => (match qa0 (h ++ Hs) i with
   | some (.row s l _) => bX (l[j]?) fun x => qdG (encT s x) o n agg fun x => K x h c
   | some (.fns _ l) => (match l[j]? with
    | some x => qdG x o n agg fun x => K x h c
    | none => none)
   | _ => none)
  | _ => none)
 | .b2s x => rowK (h ++ Hs) (.int .u8) (E x) fun l _ => K (.d (.str (mkS l))) h c
 | .s2b x => (match asS (E x) with
  | some b => K (.sl (.int .u8) (bytesOf b)) h c
  | none => none)
 | .sla n x lo hi => (match E x with
  | .box i 0 => (match qa0 (h ++ Hs) i, qtN E 0 lo, qtN E n hi with
   | some (.box cells), some a, some b => (match Nat.beq cells.length n && qoP a b n with
    | true => K (.win i 1 a.toNat (b.toNat - a.toNat)) h c
    | false => none)
   | _, _, _ => none)
  | _ => none)
 | .call f args => fL (args.map E) fun args => zg6 X inl dr Hs f args h c K
 | .callv x args => (match E x with
  | .clo f caps => fL (args.map E ++ caps) fun args => zg6 X inl dr Hs f args h c K
  | _ => none)
def zg7 (E : Opd->TV) (s : Nat) : List (Nat × Opd)->List (List TV)->Option (List (List TV))
 | [], l => some l
 | (i, x) :: ps, l => match qiE (E x) with
  | some cs => (match Nat.beq cs.length s && Nat.ble (i + 1) l.length && cs.all qwW with
   | true => zg7 E s ps (l.set i cs)
   | false => none)
  | none => none
def fLL : List (List TV)->(List (List TV)->Option ρ)->Option ρ
 | [], K => K []
 | x :: l, K => fL x fun x => fLL l fun l => K (x :: l)
def qlL (E : Opd->TV) (ty : Option Sh) (h : HpT) (c : Nat) (K : TV->HpT->Nat->Option ρ) : AlOp->Option ρ
 | .alloc zero => (match zero.all DV.single with
  | true => fL (zero.map zk8) fun cells => K (.box c 0) ((c, .box cells) :: h) (c + 1)
  | false => none)
 | .bx x => (match qiE (E x) with
  | some cs => (match cs.all qwW with
   | true => K (.box c 0) ((c, .box cs) :: h) (c + 1)
   | false => none)
  | none => none)
 | .bsl s n zero ps => (match ty with
  | some sh => (match sh.fine && Nat.beq sh.size s && zero.all DV.single && Nat.ble n 4611686018427387904 with
   | true => qtM (h ++ Hs) sh (zero.map zk8) fun z _ r => (match r with
    | [] => zr0 (h ++ Hs) E sh ps (List.replicate n z) fun l => K (.own c) ((c, .row sh l true) :: h) (c + 1)
    | _ => none)
   | false => none)
  | none => none)
 | .bsf s n zero ps => (match zero.all DV.single && Nat.ble n 4611686018427387904, zg7 E s ps (List.replicate n (zero.map zk8)) with
  | true, some l => fLL l fun l => K (.win c s 0 n) ((c, .fns s l) :: h) (c + 1)
  | _, _ => none)
 | .mks s bytes zero n m => (match ty, asI (E n), asI (E m) with
  | some sh, some n, some m => (match sh.fine && Nat.beq sh.size s && zero.all DV.single && Nat.beq zero.length s with
   | true => qtM (h ++ Hs) sh (zero.map zk8) fun z _ r => (match r with
    | [] => cX (fitsM bytes n m) (K (.own c) ((c, .row sh (List.replicate n.toNat z) true) :: h) (c + 1)) none
    | _ => none)
   | false => none)
  | _, _, _ => none)
def appsK (E : Opd->TV) (sh : Sh) (str : Bool) (y : Opd) (H : HpT) (K : List (El sh)->Option ρ) : Option ρ := match str with
 | true => (match asS (E y), qwV (.int .u8) sh with
  | some b, some h => cK h.down (bytesOf b) K
  | _, _ => none)
 | false => rowK H sh (E y) fun l _ => K l
def qoQ (E : Opd->TV) (ty : Option Sh) (h : HpT) (c : Nat) (K : TV->HpT->Nat->Option ρ) : WOp->Option ρ
 | .store n x v => (match qiE (E v) with
  | some cs => (match Nat.beq cs.length n && cs.all qwW with
   | true => (match E x with
    | .box i o => (match qa0 h i with
     | some (.box cells) => (match Nat.ble (o + n) cells.length with
      | true => fL (splice cells o cs) fun cells => fH (qeH h i (.box cells)) fun h => K (.tup []) h c
      | false => none)
     | _ => none)
    | .elt i j o => (match qa0 h i with
     | some (.row s l true) => (match Nat.ble (o + n) s.size && Nat.ble n 64 with
      | true => bX (l[j]?) fun x => qtM (h ++ Hs) s (splice (encT s x) o cs) fun x' ids r => (match r, ids.elem i, frz ids h with
       | [], false, some h' => fH (qeH h' i (.row s (l.set j x') true)) fun h => K (.tup []) h c
       | _, _, _ => none)
      | false => none)
     | _ => none)
    | _ => none)
   | false => none)
  | none => none)
 | .app s bytes str x y => (match ty with
  | some sh => (match sh.fine && Nat.beq sh.size s with
   | true => appsK E sh str y (h ++ Hs) fun ys => (match E x with
    | .nil => bX (qn7 [] ys bytes) fun m => K (.own c) ((c, .row sh m true) :: h) (c + 1)
    | .own i => (match qa0 h i with
     | some (.row s' l true) => (match qwV s' sh with
      | some hh => cK hh.down l fun l => bX (qn7 l ys bytes) fun m => fH (qeH h i .dead) fun h => K (.own c) ((c, .row sh m true) :: h) (c + 1)
      | none => none)
     | _ => none)
    | _ => none)
   | false => none)
  | none => none)
 | .clr s zero x => (match E x with
  | .nil => K (.tup []) h c
  | .row i o n => (match qa0 h i with
   | some (.row sh l true) => (match Nat.beq sh.size s && zero.all DV.single && Nat.beq zero.length s with
    | true => qtM (h ++ Hs) sh (zero.map zk8) fun z _ r => (match r with
     | [] => cX (Nat.ble (o + n) l.length) (fH (qeH h i (.row sh (l.take o ++ List.replicate n z ++ l.drop (o + n)) true)) fun h => K (.tup []) h c) none
     | _ => none)
    | false => none)
   | _ => none)
  | _ => none)
 | .s2s x => (match E x with
  | .own i => (match qa0 h i with
   | some (.row s l true) => cX (nonz l.length) (fH (qeH h i (.row s l false)) fun h => K (.own i) h c) none
   | _ => none)
  | _ => none)
def opK (E R : Opd->TV) (ty : Option Sh) (op : AOp) (h : HpT) (c : Nat) (K : TV->HpT->Nat->Option ρ) : Option ρ := match op with
 | .p o => qr7 (h ++ Hs) E R o fun x => K x h c
 | .r o => qfQ X inl dr Hs E h c K o
 | .a o => qlL Hs E ty h c K o
 | .w o => qoQ Hs E ty h c K o
end
def qcS (j : Nat) : List TIns->Option (List TIns × Nat × List TIns)
 | [] => none
 | i :: l => match i.i.op, i.i.dst, i.i.guard with
  | .p (.pick (.t k) _ _), some d, _ => (match Nat.beq k j with
   | true => some ([i], d, l)
   | false => (match qcS j l with
    | some (a, d, b) => some (i :: a, d, b)
    | none => none))
  | _, _, _ => (match qcS j l with
   | some (a, d, b) => some (i :: a, d, b)
   | none => none)
def quiet (X : Cx) (i : TIns) : Bool := match i.i.op with
 | .p _ => true
 | .r (.call f _) => (match X.ct f with
  | some _ => true
  | none => false)
 | .r (.callv _ _) => false
 | .r _ => true
 | _ => false
def total (i : TIns) : Bool := match i.i.op with
 | .p (.bin .quo _ _) => false
 | .p (.bin .rem _ _) => false
 | .p (.bin .shl _ (.t _)) => false
 | .p (.bin .shr _ (.t _)) => false
 | .p (.idxS _ _) => false
 | .p (.slS _ _ _) => false
 | .p (.soff _ _ _) => false
 | .p (.slice _ _ _ _ _) => false
 | .p _ => true
 | .r (.load _ _ _) => true
 | _ => false
def defI : List TIns->Nat->Option AOp
 | [], _ => none
 | i :: l, t => match i.i.dst with
  | some d => (match Nat.beq d t with
   | true => some i.i.op
   | false => defI l t)
  | none => defI l t
def zr1 (seg : List TIns) : Nat->Nat->Nat
 | 0, n => n
 | k + 1, n => match defI seg n with
  | some (.p (.foff _ (.t b))) => zr1 seg k b
  | some (.p (.aoff _ _ (.t b) _)) => zr1 seg k b
  | some (.p (.mv (.t b))) => zr1 seg k b
  | some (.p (.chk (.t b))) => zr1 seg k b
  | _ => n
def totalE (e : qd9) (seg : List TIns) (i : TIns) : Bool := match i.i.op with
 | .r (.load _ _ (.t n)) => (match qa5 e (zr1 seg 8 n) with
  | .elt _ _ _ => false
  | _ => true)
 | _ => total i
def qf7 : List TIns->List Nat->List Nat
 | [], m => m
 | i :: l, m => match i.i.dst with
  | some d => d :: qf7 l m
  | none => qf7 l m
def qe9 : qd9->List Nat
 | [] => []
 | (k, _) :: l => k :: qe9 l
def qv5 : HpT->List Nat
 | [] => []
 | (k, _) :: l => k :: qv5 l
def qj6 : List Nat->qd9->qd9
 | [], e => e
 | i :: l, e => (i, .junk) :: qj6 l e
def zr2 : List Nat->List Nat->Bool
 | [], _ => true
 | i :: l, m => m.elem i && zr2 l m
def zg8 (c : Nat) : List Nat->Bool
 | [] => true
 | i :: l => Nat.ble c i && zg8 c l
def qsC (d : Option Nat) (x : TV) (e : qd9) : qd9 := match d with
 | some d => (d, x) :: e
 | none => e
def bEq : Bool->Bool->Bool
 | true, x => x
 | false, x => !x
def segK (j d c : Nat) (seg : List TIns) (e : qd9) (h : HpT) (_ : Nat) : Option Bool := match zr2 (qe9 e) (j :: qf7 seg []) && zg8 c (qv5 h) with
 | true => asB (qa5 e d)
 | false => none
def qt9 (X : Cx) (inl : Inl) (dr : Bool) : Nat->(ρ : Type)->qd9->HpT->List TIns->qd9->HpT->Nat->KT ρ->Option ρ
 | 0, _, _, _, _, _, _, _, _ => none
 | n + 1, ρ, Es, Hs, ops, e, h, c, K => match ops with
  | [] => K e h c
  | i :: l =>
   (match i.i.guard with
   | none => opK X inl dr Hs (evT (e ++ Es)) (qnK (e ++ Es)) i.ty i.i.op h c fun x h c => fU x fun x => qt9 X inl dr n ρ Es Hs l (qsC i.i.dst x e) h c K
   | some (j, want) => (match qa5 (e ++ Es) j with
    | .lit b => (match bEq b want with
     | true => opK X inl dr Hs (evT (e ++ Es)) (qnK (e ++ Es)) i.ty i.i.op h c fun x h c => fU x fun x => qt9 X inl dr n ρ Es Hs l (qsC i.i.dst x e) h c K
     | false => qt9 X inl dr n ρ Es Hs l (qsC i.i.dst .undef e) h c K)
    | .undef => qt9 X inl dr n ρ Es Hs l (qsC i.i.dst .undef e) h c K
    | .d (.bool t) => (match qcS j (i :: l) with
     | some (seg, d, rest) => (match seg.all (quiet X) with
      | true => (match seg.all (totalE (e ++ Es) seg) with
       | true => (match qt9 X inl dr n Bool (e ++ Es) (h ++ Hs) seg [(j, .lit true)] [] c (segK j d c seg), qt9 X inl dr n Bool (e ++ Es) (h ++ Hs) seg [(j, .lit false)] [] c (segK j d c seg) with
        | some a, some b => qt9 X inl dr n ρ Es Hs rest ((d, .d (.bool (bif t then a else b))) :: qj6 (j :: qf7 seg []) e) h c K
        | _, _ => none)
       | false => bX (cX t (qt9 X inl dr n Bool (e ++ Es) (h ++ Hs) seg [(j, .lit true)] [] c (segK j d c seg)) (qt9 X inl dr n Bool (e ++ Es) (h ++ Hs) seg [(j, .lit false)] [] c (segK j d c seg)))
         fun v => qt9 X inl dr n ρ Es Hs rest ((d, .d (.bool v)) :: qj6 (j :: qf7 seg []) e) h c K)
      | false => cX t (qt9 X inl dr n ρ Es Hs (i :: l) ((j, .lit true) :: e) h c K) (qt9 X inl dr n ρ Es Hs (i :: l) ((j, .lit false) :: e) h c K))
     | none => cX t (qt9 X inl dr n ρ Es Hs (i :: l) ((j, .lit true) :: e) h c K) (qt9 X inl dr n ρ Es Hs (i :: l) ((j, .lit false) :: e) h c K))
    | _ => none))
inductive STy where
 | v (s : Sh)
 | r (s : Sh)
def STy.sh : STy->Sh
 | .v s => s
 | .r s => .slice s.size s
inductive SlW where
 | t (n : Nat)
 | b (n : Nat) (path : List Nat)
 | a (n : Nat) (k : Nat)
structure Slot where
 w : SlW
 tys : List STy
inductive RSl where
 | t (n : Nat) (ty : STy)
 | b (i : Nat) (tys : List STy)
 | a (n : Nat) (k : Nat)
def pathB (H : HpT) : TV->List Nat->Option Nat
 | .box i 0, [] => some i
 | .box i o, k :: l => (match qa0 H i with
  | some (.box cells) => (match cells[o + k]? with
   | some x => pathB H x l
   | none => none)
  | _ => none)
 | _, _ => none
def reslv (e : qd9) (H : HpT) : List Slot->Option (List RSl)
 | [] => some []
 | s :: l => (match s.w, s.tys, reslv e H l with
  | .t n, [ty], some m => some (.t n ty :: m)
  | .b n p, tys, some m => (match pathB H (qa5 e n) p with
   | some i => some (.b i tys :: m)
   | none => none)
  | .a n k, [], some m => some (.a n k :: m)
  | _, _, _ => none)
def qy3 : List STy->List Sh
 | [] => []
 | t :: l => t.sh :: qy3 l
def qz5 : List RSl->List STy
 | [] => []
 | .t _ ty :: l => ty :: qz5 l
 | .b _ tys :: l => tys ++ qz5 l
 | .a _ _ :: l => qz5 l
def ty1K {ρ : Type} (h : HpT) (ty : STy) (x : TV) (K : El ty.sh->List Nat->Option ρ) : Option ρ := match ty with
 | .v .bool => (match asB x with
  | some b => K b []
  | none => none)
 | .v (.int k) => (match x with
  | .d (.int k' n) => (match decEq k' k with
   | .isTrue _ => K n []
   | .isFalse _ => none)
  | _ => none)
 | .v .str => (match asS x with
  | some b => K b []
  | none => none)
 | .v (.slice _ s) => (match x with
  | .sl s' l => (match qwV s' s with
   | some hh => cK hh.down l fun l => K l []
   | none => none)
  | .nil => (match s.fine with
   | true => K [] []
   | false => none)
  | _ => none)
 | .v _ => none
 | .r s => (match x with
  | .own i => (match qa0 h i with
   | some (.row s' l true) => (match qwV s' s with
    | some hh => cK hh.down l fun l => K l [i]
    | none => none)
   | _ => none)
  | .nil => (match s.fine with
   | true => K [] []
   | false => none)
  | _ => none)
def tysK {ρ : Type} (h : HpT) : (tys : List STy)->List TV->(El (qk3 (qy3 tys))->List Nat->Option ρ)->Option ρ
 | [], xs, K => (match xs with
  | [] => K () []
  | _ => none)
 | ty :: l, xs, K => (match xs with
  | x :: xs => ty1K h ty x fun a i => tysK h l xs fun b j => K (a, b) (i ++ j)
  | [] => none)
def qqQ (e : qd9) (h : HpT) : List RSl->Option (List TV)
 | [] => some []
 | .t n _ :: l => (match qqQ e h l with
  | some m => some (noLit (qa5 e n) :: m)
  | none => none)
 | .b i tys :: l => (match qa0 h i, qqQ e h l with
  | some (.box cells), some m => (match Nat.beq cells.length tys.length with
   | true => some (cells ++ m)
   | false => none)
  | _, _ => none)
 | .a _ _ :: l => qqQ e h l
def zr3 (h : HpT) (x y : TV) : Bool := match x, y with
 | .own i, .own j => Nat.beq i j && (match qa0 h i with
  | some (.row _ _ _) => true
  | _ => false)
 | _, _ => false
def alB (e : qd9) (h : HpT) (C : List TV) : List RSl->Bool
 | [] => true
 | .a n k :: l => zr3 h (qa5 e n) (C.getD k .junk) && alB e h C l
 | _ :: l => alB e h C l
def ownT : TV->TV
 | .own i => .own i
 | _ => .junk
def one1 : (s : Sh)->El s->TV
 | .bool, b => .d (.bool b)
 | .int k, n => .d (.int k n)
 | .str, x => .d (.str x)
 | .slice _ s, l => .sl s l
 | _, _ => .junk
def mkC : (tys : List STy)->El (qk3 (qy3 tys))->Nat->List TV × HpT × Nat
 | [], _, c => ([], [], c)
 | .v s :: l, x, c => (match mkC l x.2 c with
  | (m, h, c') => (one1 s x.1 :: m, h, c'))
 | .r s :: l, x, c => (match mkC l x.2 (c + 1) with
  | (m, h, c') => (.own c :: m, (c, .row s x.1 true) :: h, c'))
def qjN (C : List TV) : List RSl->List TV->qd9 × HpT
 | [], _ => ([], [])
 | .t n _ :: l, cs => (match cs with
  | x :: cs => (match qjN C l cs with
   | (e, h) => ((n, x) :: e, h))
  | [] => ([], []))
 | .b i tys :: l, cs => (match qjN C l (cs.drop tys.length) with
  | (e, h) => (e, (i, .box (cs.take tys.length)) :: h))
 | .a n k :: l, cs => (match qjN C l cs with
  | (e, h) => ((n, ownT (C.getD k .junk)) :: e, h))
def qb6 : List RSl->List Nat
 | [] => []
 | .t _ _ :: l => qb6 l
 | .b i _ :: l => i :: qb6 l
 | .a _ _ :: l => qb6 l
def qe4 : List RSl->List Nat
 | [] => []
 | .t n _ :: l => n :: qe4 l
 | .b _ _ :: l => qe4 l
 | .a n _ :: l => n :: qe4 l
def qzY (dy : List Nat) (c : Nat) : List Nat->Bool
 | [] => true
 | i :: l => (dy.elem i || Nat.ble c i) && qzY dy c l
def qtO (h : HpT) : List Nat->Bool
 | [] => true
 | i :: l => (match qa0 h i with
  | some (.box _) => false
  | _ => true) && qtO h l
def zg9 (l : List Nat) : List Nat->Bool
 | [] => true
 | i :: m => !(l.elem i) && zg9 l m
def qzZ : List Nat->Bool
 | [] => true
 | i :: l => !(l.elem i) && qzZ l
def qk8 (ids : List Nat) : HpT->HpT
 | [] => []
 | (k, b) :: l => (match ids.elem k with
  | true => qk8 ids l
  | false => (k, b) :: qk8 ids l)
def qaK (ids : List Nat) : HpT->HpT
 | [] => []
 | (k, b) :: l => (match ids.elem k with
  | true => (k, b) :: qaK ids l
  | false => qaK ids l)
def qeI : List Nat->HpT
 | [] => []
 | i :: l => (i, .dead) :: qeI l
def qk4 (ids : List Nat) : qd9->qd9
 | [] => []
 | (k, b) :: l => (match ids.elem k with
  | true => qk4 ids l
  | false => (k, b) :: qk4 ids l)
def qlM (ids : List Nat) : qd9->qd9
 | [] => []
 | (k, b) :: l => (match ids.elem k with
  | true => (k, b) :: qlM ids l
  | false => qlM ids l)
inductive HCode where
 | skip
 | region (ops : List TIns)
 | draw (ops : List TIns) (cut : Option Nat)
 | drawA (ops : List TIns) (r r2 : Rgn) (cut : Option Nat)
 | bad
 | seq (a b : HCode)
 | cond (j : Option (List Slot)) (k : Opd) (a b : HCode)
 | block (j : Option (List Slot)) (id : Nat) (x : HCode)
 | loop (j : Option (List Slot)) (n : Nat) (x : HCode)
 | exit (id : Nat)
 | ret
inductive Hint where
 | j (l : List Slot)
 | u (n : Nat)
def qf8 : List TIns->List AIns
 | [] => []
 | i :: l => i.i :: qf8 l
def HCode.er : HCode->ACode
 | .skip => .skip
 | .region ops => .region (qf8 ops)
 | .draw ops ct => .draw (qf8 ops) ct
 | .drawA ops r r2 ct => .drawA (qf8 ops) r r2 ct
 | .seq a b => .seq a.er b.er
 | .cond _ k a b => .cond k a.er b.er
 | .block _ id x => .block id x.er
 | .loop _ _ x => .loop x.er
 | .exit id => .exit id
 | .bad => .bad
 | .ret => .ret
def shOf (P : Program) (o : Oper) : Option Sh := match o.op with
 | .buildSlice t _ _ => (match P.underlying t with
  | some (.slice e) => qbQ P 20 e
  | _ => none)
 | .makeSlice t _ _ => (match P.underlying t with
  | some (.slice e) => qbQ P 20 e
  | _ => none)
 | .call c => (match c.callee, c.argTypes.toList with
  | .builtin .append, t :: _ => (match P.underlying t with
   | some (.slice e) => qbQ P 20 e
   | _ => none)
  | _, _ => none)
 | _ => none
def qiF (P : Program) : List AIns->List Oper->List TIns
 | [], _ => []
 | i :: l, os => match os with
  | [] => ⟨i, none⟩ :: qiF P l []
  | o :: os => ⟨i, shOf P o⟩ :: qiF P l os
def zr4 : List (Nat × Hint)->Nat->Option Hint
 | [], _ => none
 | (k, x) :: l, n => match Nat.beq k n with
  | true => some x
  | false => zr4 l n
def jAt (l : List (Nat × Hint)) (n : Nat) : Option (List Slot) := match zr4 l n with
 | some (.j s) => some s
 | _ => none
def uAt (l : List (Nat × Hint)) (n : Nat) : Nat := match zr4 l n with
 | some (.u k) => k
 | _ => 0
def qhC (P : Program) (hs : List (Nat × Hint)) : Code->Nat->Option (HCode × Nat)
 | .skip, n => some (.skip, n)
 | .region id ops dr, n => (match qm1 P (.region id ops dr) with
  | some (.region m) => some (.region (qiF P m ops.toList), n)
  | some (.draw m ct) => some (.draw (qiF P m ops.toList) ct, n)
  | some (.drawA m r r2 ct) => some (.drawA (qiF P m ops.toList) r r2 ct, n)
  | some .bad => some (.bad, n)
  | _ => none)
 | .seq a b, n => (match qhC P hs a n with
  | some (a', n) => (match qhC P hs b n with
   | some (b', n) => some (.seq a' b', n)
   | none => none)
  | none => none)
 | .cond c a b, n => (match qo5 c, qhC P hs a (n + 1) with
  | some c', some (a', m) => (match qhC P hs b m with
   | some (b', m) => some (.cond (jAt hs n) c' a' b', m)
   | none => none)
  | _, _ => none)
 | .block id x, n => (match qhC P hs x (n + 1) with
  | some (x', m) => some (.block (jAt hs n) id x', m)
  | none => none)
 | .loop x, n => (match qhC P hs x (n + 1) with
  | some (x', m) => some (.loop (jAt hs n) (uAt hs n) x', m)
  | none => none)
 | .exit id, n => some (.exit id, n)
 | .ret, n => some (.ret, n)
 | _, n => some (.bad, n)
def escs : HCode->List Nat->Bool
 | .seq a b, l => escs a l || escs b l
 | .cond _ _ a b, l => escs a l || escs b l
 | .block _ id x, l => escs x (id :: l)
 | .loop _ _ x, l => escs x l
 | .exit id, l => !(l.elem id)
 | .ret, _ => true
 | _, _ => false
def qnP : HCode->List Nat->List Nat
 | .region ops, m => qf7 ops m
 | .draw ops _, m => qf7 ops m
 | .drawA ops _ _ _, m => qf7 ops m
 | .seq a b, m => qnP a (qnP b m)
 | .cond _ _ a b, m => qnP a (qnP b m)
 | .block _ _ x, m => qnP x m
 | .loop _ _ x, m => qnP x m
 | _, m => m
def qdH : List Nat->List Nat->List Nat
 | [], _ => []
 | i :: l, m => match m.elem i with
  | true => i :: qdH l m
  | false => qdH l m
def za0 {ρ : Type} (body : qd9->HpT->Nat->(Exit->KT ρ)->Option ρ) : Nat->qd9->HpT->Nat->(Exit->KT ρ)->Option ρ
 | 0, _, _, _, _ => none
 | n + 1, e, h, c, K => body e h c fun x e h c => (match x with
  | .normal => za0 body n e h c K
  | x => K x e h c)
def qv9 : List STy->List TV->List Nat
 | .r _ :: l, x :: xs => (match x with
  | .own i => i :: qv9 l xs
  | _ => qv9 l xs)
 | .v _ :: l, _ :: xs => qv9 l xs
 | _, _ => []
def contK {ρ : Type} (rs : List RSl) (ids0 W : List Nat) (Es E1 : qd9) (hs : HpT) (c : Nat) (K : KT ρ) (v : El (qk3 (qy3 (qz5 rs)))) : Option ρ :=
 match mkC (qz5 rs) v c with
 | (cells, hr, c1) => (match qjN cells rs cells with
  | (e', hb) => fH (hb ++ hr ++ qeI ids0 ++ hs) fun h => K (e' ++ qj6 (qdH W (qe9 Es)) E1) h c1)
def takeK {ρ : Type} (rs : List RSl) (E : qd9) (h : HpT) (K : El (qk3 (qy3 (qz5 rs)))->List Nat->Option ρ) : Option ρ :=
 match qqQ E h rs with
 | some cs => (match alB E h cs rs with
  | true => fL cs fun cs => tysK h (qz5 rs) cs fun v ids => (match qzZ (qb6 rs ++ ids) with
   | true => K v ids
   | false => none)
  | false => none)
 | none => none
def endK {ρ : Type} (rs : List RSl) (ids0 W : List Nat) (c : Nat) (E1 : qd9) (e : qd9) (h : HpT) (K : El (qk3 (qy3 (qz5 rs)))->Option ρ) : Option ρ :=
 match zr2 (qe9 e) (W ++ qe4 rs) && qzY (qb6 rs ++ ids0) c (qv5 h) && qtO h ids0 with
 | true => takeK rs (e ++ E1) h fun v _ => K v
 | false => none
section
variable (X : Cx) (inl : Inl)
def joinK (ρ : Type) (sl : List Slot) (esc : Bool) (W : List Nat) (Es : qd9) (Hs : HpT) (e : qd9) (h : HpT) (c : Nat)
  (run : (ρ' : Type)->qd9->HpT->qd9->HpT->Nat->(Exit->KT ρ')->Option ρ') (K : Exit->KT ρ) : Option ρ :=
 match reslv (e ++ Es) (h ++ Hs) sl with
 | some rs => (match qqQ (e ++ Es) h rs with
  | some cs0 => (match qv9 (qz5 rs) cs0 with
   | ids0 => (match zg9 (qv5 Hs) (qb6 rs ++ ids0) with
    | true => fH (qk8 (qb6 rs ++ ids0) h) fun hs => fH (qaK (qb6 rs ++ ids0) h) fun h1 =>
     (match esc with
     | false => bX (run (El (qk3 (qy3 (qz5 rs)))) (qk4 W (e ++ Es)) (hs ++ Hs) (qlM W (e ++ Es)) h1 c fun x e2 h2 _ => (match x with
       | .normal => endK rs ids0 W c (qk4 W (e ++ Es)) e2 h2 fun v => some v
       | _ => none))
       (contK rs ids0 W Es (qk4 W e) hs c (K .normal))
     | true => bX (run (El (qk3 (qy3 (qz5 rs))) ⊕ ρ) (qk4 W (e ++ Es)) (hs ++ Hs) (qlM W (e ++ Es)) h1 c fun x e2 h2 c2 => (match x with
       | .normal => endK rs ids0 W c (qk4 W (e ++ Es)) e2 h2 fun v => some (.inl v)
       | x => mX (K x (e2 ++ qj6 (qdH W (qe9 Es)) (qk4 W e)) (h2 ++ hs) c2)))
       (eX (contK rs ids0 W Es (qk4 W e) hs c (K .normal))))
    | false => none))
  | none => none)
 | none => none
noncomputable def loopK (ρ : Type) (sl : List Slot) (W : List Nat) (Es : qd9) (Hs : HpT) (e : qd9) (h : HpT) (c : Nat)
  (run : (ρ' : Type)->qd9->HpT->qd9->HpT->Nat->(Exit->KT ρ')->Option ρ') (K : Exit->KT ρ) : Option ρ :=
 match reslv (e ++ Es) (h ++ Hs) sl with
 | some rs => takeK rs (e ++ Es) h fun v0 ids0 => (match zg9 (qv5 Hs) (qb6 rs ++ ids0) && qtO h ids0 with
  | true => fH (qk8 (qb6 rs ++ ids0) h) fun hs =>
   lX (fun v => (match mkC (qz5 rs) v c with
    | (cells, hr, c1) => (match qjN cells rs cells with
     | (e1, hb) => fH (hb ++ hr ++ qeI ids0) fun h1 =>
      run (El (qk3 (qy3 (qz5 rs))) ⊕ ρ) (qk4 (W ++ qe4 rs) (e ++ Es)) (hs ++ Hs) e1 h1 c1 fun x e2 h2 c2 => (match x with
       | .normal => endK rs ids0 W c (qk4 (W ++ qe4 rs) (e ++ Es)) e2 h2 fun v => some (.inl v)
       | x => mX (K x (e2 ++ qj6 (qdH (W ++ qe4 rs) (qe9 Es)) (qk4 (W ++ qe4 rs) e)) (h2 ++ hs) c2))))) v0
  | false => none)
 | none => none
def clsB (E : qd9) (H : HpT) (D : List Nat) : List (Nat × Nat)->Bool
 | [] => true
 | (t, c) :: l => (D.elem t || (Nat.beq t c && (match qa5 E t with
  | .box i _ => (match qa0 H i with
   | some (.box _) => true
   | _ => false)
  | .pt _ _ _ => true
  | _ => false))) && clsB E H D l
def needB (E : qd9) (H : HpT) (D AL : List Nat) : List (Nat × Nat)->Bool
 | [] => true
 | (c, d) :: l => (match AL.elem c, AL.elem d with
  | true, true => !(Nat.beq c d)
  | false, true => (match qa5 E c with
   | .box i _ => (match qa0 H i with
    | some (.box _) => true
    | _ => false)
   | _ => false)
  | true, false => (match qa5 E d with
   | .box i _ => (match qa0 H i with
    | some (.box _) => true
    | _ => false)
   | _ => false)
  | false, false => (match qa5 E c, qa5 E d with
   | .box i _, .box j _ => !(Nat.beq i j) && (match qa0 H i, qa0 H j with
    | some (.box _), some (.box _) => true
    | _, _ => false)
   | _, _ => false)) && needB E H D AL l
def LibK.beq : LibK->LibK->Bool
 | .clone s b, .clone s' b' => Nat.beq s s' && Nat.beq b b'
 | .ins s b, .ins s' b' => Nat.beq s s' && Nat.beq b b'
 | .del s, .del s' => Nat.beq s s'
 | .grow s b, .grow s' b' => Nat.beq s s' && Nat.beq b b'
 | _, _ => false
def lbB (X : Cx) : List (FuncId × LibK)->Bool
 | [] => true
 | (f, k) :: l => (match X.lb f, X.ct f with
  | some (k', _), none => k'.beq k
  | _, _ => false) && lbB X l
def lbAt (LB : List (FuncId × LibK)) (X : Cx) (f : FuncId) : Option (LibK × Sh) := match qx8 LB f with
 | some _ => X.lb f
 | none => none
def qiG : List TIns->Bool
 | [] => true
 | i :: l => (match i.i.dst, i.i.op with
  | some d, _ => !((qf7 l []).elem d)
  | none, .w (.store _ _ _) => true
  | _, _ => false) && qiG l
noncomputable def exD (ρ : Type) (Es : qd9) (Hs : HpT) (ops : List TIns) (e : qd9) (h : HpT) (c : Nat) (K : KT ρ) : Option ρ := qt9 X inl true 2000 ρ Es Hs ops e h c K
end
section
variable (X : Cx) (inl : Inl)
def eltsB (E : qd9) (D : List Nat) : List Nat->Bool
 | [] => true
 | t :: l => (D.elem t || (match qa5 E t with
  | .elt _ _ _ => true
  | .pt _ _ _ => true
  | _ => false)) && eltsB E D l
def rgnB (E : qd9) (H : HpT) (ops : List TIns) (r : Rgn) : Bool := lbB X r.LB && qiG ops && clsB E H (qf7 ops []) r.L && eltsB E (qf7 ops []) r.EL && r.AL.all (qf7 ops []).elem && needB E H (qf7 ops []) r.AL r.needs
def zr5 (E : qd9) (H : HpT) (ops : List TIns) (r1 r2 : Rgn) : Option Rgn := match rgnB X E H ops r1 with
 | true => some r1
 | false => (match rgnB X E H ops r2 with
  | true => some r2
  | false => none)
def wild (i : TIns) : Bool := match i.i.op with
 | .r (.call f _) => (match X.ct f, X.lb f with
  | none, none => true
  | _, _ => false)
 | .r (.callv _ _) => true
 | _ => false
def isSla (i : TIns) : Bool := match i.i.op with
 | .r (.sla _ _ _ _) => true
 | _ => false
def qtP (ops : List TIns) : Option Nat->Option (Nat × List TIns × TIns × List TIns)
 | none => none
 | some c => (match Nat.blt c 1000 with
  | false => none
  | true => (match ops.drop c with
  | [] => none
  | i :: b => (match wild X i || ops.any isSla with
   | true => some (c, ops.take c, i, b)
   | false => none)))
def qqR (ops : List TIns) : Option Nat->Option (Nat × List TIns × TIns × List TIns)
 | none => none
 | some c => (match Nat.ble 1000 c with
  | false => none
  | true => (match ops.drop (c - 1000) with
  | [] => none
  | i :: b => (match wild X i with
   | true => some (c - 1000, ops.take (c - 1000), i, b)
   | false => none)))
def qwB (E : qd9) (H : HpT) : AOp->Option TV
 | .p (.mv (.t x)) => (match qa5 E x with
  | .lit b => some (.lit b)
  | y => some (noLit y))
 | .p (.chk (.t x)) => (match qa5 E x with
  | .box i j => some (.box i j)
  | .elt i j k => some (.elt i j k)
  | .pt s x k => some (.pt s x k)
  | .clo f l => some (.clo f l)
  | _ => none)
 | .p (.foff o (.t x)) => (match qa5 E x with
  | .box i j => some (.box i (j + o))
  | .elt i j k => some (.elt i j (k + o))
  | .pt s x k => some (.pt s x (k + o))
  | _ => none)
 | .r (.load n agg (.t x)) => (match qa5 E x with
  | .box i o => (match qa0 H i with
   | some (.box cells) => qdG cells o n agg some
   | _ => none)
  | _ => none)
 | _ => none
def zh0 (i : TIns) : Bool := i.i.guard.isNone && i.i.dst.isSome && (match i.i.op with
 | .p _ => true
 | _ => qx1 i.i)
def ordT : List TIns->Bool
 | [] => true
 | i :: l => (i :: l).all (fun j => match j.i.dst with
  | some d => !((qj4 i.i).elem d)
  | none => true) && ordT l
def qt3 (E : qd9) : List TIns->List Nat
 | [] => []
 | i :: l => (match i.i.op with
  | .r (.load _ _ (.t x)) => (match qa5 E x with
   | .box j _ => j :: qt3 E l
   | _ => qt3 E l)
  | _ => qt3 E l)
def clsM (E : qd9) (H : HpT) (D : List Nat) : List (Nat × Nat)->Bool
 | [] => true
 | (t, c) :: l => (D.elem t || (match qa5 E t with
  | .box i _ => (match qa5 E c, qa0 H i with
   | .box j _, some (.box _) => Nat.beq i j
   | _, _ => false)
  | .pt _ _ _ => true
  | _ => false)) && clsM E H D l
def needM (E : qd9) (H : HpT) : List (Nat × Nat)->Bool
 | [] => true
 | (c, d) :: l => (match qa5 E c, qa5 E d with
  | .box i _, .box j _ => !(Nat.beq i j) && (match qa0 H i, qa0 H j with
   | some (.box _), some (.box _) => true
   | _, _ => false)
  | _, _ => false) && needM E H l
def unU : TV->TV
 | .undef => .junk
 | x => x
def seenT (E : qd9) (H : HpT) (i : TIns) : Bool := match qx1 i.i with
 | true => (match qwB E H i.i.op with
  | some _ => true
  | none => false)
 | false => true
def freeT (a : List TIns) (i : TIns) : Bool := match i.i.dst with
 | some d => a.all fun j => !((qj4 j.i).elem d)
 | none => true
noncomputable def exC (ρ : Type) (Es : qd9) (Hs : HpT) (a : List TIns) (i : TIns) (b : List TIns) (e : qd9) (h : HpT) (c : Nat) (K : KT ρ) : Option ρ := match qiG a && qiG b with
 | true => qt9 ⟨X.ct, fun _ => false, fun _ => none, fun _ => none⟩ inl true 2000 ρ Es Hs a e h c fun e h c => qt9 X inl false 2000 ρ Es Hs [i] e h c fun e h c => qt9 ⟨X.ct, fun _ => false, fun _ => none, fun _ => none⟩ inl true 2000 ρ Es Hs b e h c K
 | false => none
noncomputable def exM1 (L nd : List (Nat × Nat)) (ρ : Type) (Es : qd9) (Hs : HpT) (ids : List Nat) (hk : HpT) (b : List TIns) (K : KT ρ) : KT ρ := fun e2 h2 c2 => fH (h2 ++ hk) fun h3 => (match zg9 (qv5 h2) ids && (clsM (e2 ++ Es) (h3 ++ Hs) (qf7 b []) L && needM (e2 ++ Es) (h3 ++ Hs) nd) with
 | true => qt9 ⟨X.ct, fun _ => false, fun _ => none, fun _ => none⟩ inl true 2000 ρ Es Hs b (qj6 (qf7 b []) e2) h3 c2 K
 | false => none)
noncomputable def exM2 (L nd : List (Nat × Nat)) (ρ : Type) (Es : qd9) (Hs : HpT) (a : List TIns) (i : TIns) (b : List TIns) (K : KT ρ) : KT ρ := fun e1 h1 c1 => (match a.all (seenT (e1 ++ Es) (h1 ++ Hs)) with
 | true => fH (qk8 (qt3 (e1 ++ Es) a) h1) fun hd => fH (qaK (qt3 (e1 ++ Es) a) h1) fun hk => qt9 X inl false 2000 ρ Es (hk ++ Hs) [i] e1 hd c1 (exM1 X inl L nd ρ Es Hs (qt3 (e1 ++ Es) a) hk b K)
 | false => none)
noncomputable def exM (L nd : List (Nat × Nat)) (ρ : Type) (Es : qd9) (Hs : HpT) (a : List TIns) (i : TIns) (b : List TIns) (e : qd9) (h : HpT) (c : Nat) (K : KT ρ) : Option ρ := match qiG (a ++ i :: b) && (a.all zh0 && ordT a) && (i.i.guard.isNone && (i :: b).all (freeT a)) with
 | true => qt9 ⟨X.ct, fun _ => false, fun _ => none, fun _ => none⟩ inl true 2000 ρ Es Hs a e h c (exM2 X inl L nd ρ Es Hs a i b K)
 | false => none
noncomputable def exK : HCode->(ρ : Type)->qd9->HpT->qd9->HpT->Nat->(Exit->KT ρ)->Option ρ
 | .skip, _, _, _, e, h, c, K => K .normal e h c
 | .region ops, ρ, Es, Hs, e, h, c, K => qt9 X inl false 2000 ρ Es Hs ops e h c (K .normal)
 | .draw ops ct, ρ, Es, Hs, e, h, c, K => (match qtP X ops ct with
  | some (_, a, i, b) => exC X inl ρ Es Hs a i b e h c (K .normal)
  | none => (match qiG ops with
   | true => exD ⟨X.ct, fun _ => false, fun _ => none, fun _ => none⟩ inl ρ Es Hs ops e h c (K .normal)
   | false => none))
 | .drawA ops r1 r2 ct, ρ, Es, Hs, e, h, c, K => (match qtP X ops ct with
  | some (_, a, i, b) => exC X inl ρ Es Hs a i b e h c (K .normal)
  | none => (match qqR X ops ct with
  | some (_, a, i, b) => exM X inl r1.L r1.needs ρ Es Hs a i b e h c (K .normal)
  | none => (match zr5 X (e ++ Es) (h ++ Hs) ops r1 r2 with
   | some r => exD ⟨X.ct, fun f => r.S.contains f && (qx8 r.LB f).isNone, fun f => lbAt r.LB X f, fun _ => none⟩ inl ρ Es Hs ops (qj6 (qf7 ops []) e) h c (K .normal)
   | none => none)))
 | .seq a b, ρ, Es, Hs, e, h, c, K => exK a ρ Es Hs e h c fun x e h c => (match x with
  | .normal => exK b ρ Es Hs e h c K
  | x => K x e h c)
 | .cond j k a b, ρ, Es, Hs, e, h, c, K => (match qnK (e ++ Es) k with
  | .lit true => exK a ρ Es Hs e h c K
  | .lit false => exK b ρ Es Hs e h c K
  | _ => (match asB (evT (e ++ Es) k) with
   | some t => (match j with
    | none => cX t (exK a ρ Es Hs e h c K) (exK b ρ Es Hs e h c K)
    | some sl => joinK ρ sl (escs a [] || escs b []) (qnP a (qnP b [])) Es Hs e h c (fun ρ Es Hs e h c K => cX t (exK a ρ Es Hs e h c K) (exK b ρ Es Hs e h c K)) K)
   | none => none))
 | .block j id x, ρ, Es, Hs, e, h, c, K => (match j with
  | none => exK x ρ Es Hs e h c fun x e h c => (match x with
   | .exit i => (match Nat.beq i id with
    | true => K .normal e h c
    | false => K (.exit i) e h c)
   | x => K x e h c)
  | some sl => joinK ρ sl (escs x [id]) (qnP x []) Es Hs e h c (fun ρ Es Hs e h c K => exK x ρ Es Hs e h c fun x e h c => (match x with
   | .exit i => (match Nat.beq i id with
    | true => K .normal e h c
    | false => K (.exit i) e h c)
   | x => K x e h c)) K)
 | .loop j n x, ρ, Es, Hs, e, h, c, K => (match j with
  | none => za0 (fun e h c K => exK x ρ Es Hs e h c K) n e h c K
  | some sl => loopK ρ sl (qnP x []) Es Hs e h c (fun ρ Es Hs e h c K => exK x ρ Es Hs e h c K) K)
 | .exit id, _, _, _, e, h, c, K => K (.exit id) e h c
 | .bad, _, _, _, _, _, _, _ => none
 | .ret, _, _, _, e, h, c, K => K .ret e h c
end
def ltO (n : Nat) : List TIns->Bool
 | [] => true
 | i :: l => (match i.i.dst with
  | some d => Nat.ble (d + 1) n
  | none => true) && ltO n l
def ltH (n : Nat) : HCode->Bool
 | .region ops => ltO n ops
 | .draw ops _ => ltO n ops
 | .drawA ops _ _ _ => ltO n ops
 | .seq a b => ltH n a && ltH n b
 | .cond _ _ a b => ltH n a && ltH n b
 | .block _ _ x => ltH n x
 | .loop _ _ x => ltH n x
 | _ => true
structure HFn where
 code : HCode
 res : List ARes
 ntmps : Nat
def annF (P : Program) (hs : List (Nat × Hint)) (f : FuncId) : Option HFn := match P.funcs[f]? with
 | some fn => (match fn.body, qwT P fn.results.toList with
  | some c, some rs => (match fn.name == "runtime.NumGoroutine", qhC P hs c 0 with
   | false, some (hc, _) => some ⟨hc, rs, fn.ntmps⟩
   | _, _ => none)
  | _, _ => none)
 | none => none
def enumT : Nat->List TV->qd9
 | _, [] => []
 | i, x :: l => (i, x) :: enumT (i + 1) l
def qiH {ρ : Type} (e : qd9) (h : HpT) : List ARes->(List TV->Option ρ)->Option ρ
 | [], K => K []
 | .tmp t :: l, K => fT (evT e (.t t)) fun x => qiH e h l fun m => K (x :: m)
 | .cell t n agg :: l, K => (match evT e (.t t) with
  | .box i o => (match qa0 h i with
   | some (.box cells) => qdG cells o n agg fun x => qiH e h l fun m => K (x :: m)
   | _ => none)
  | _ => none)
noncomputable def funK (X : Cx) (P : Program) (hn : FuncId->List (Nat × Hint)) : Nat->Inl
 | 0 => fun _ _ _ _ _ _ _ => none
 | k + 1 => fun ρ f Hs args h c K => match annF P (hn f) f with
  | some fn => (match Nat.ble args.length fn.ntmps && ltH fn.ntmps fn.code with
   | true => exK X (funK X P hn k) fn.code ρ [] Hs (enumT 0 args) h c fun x e h c => (match x with
    | .normal => qiH e (h ++ Hs) fn.res fun m => (match m with
     | [x] => K x h c
     | m => K (.tup m) h c)
    | .ret => qiH e (h ++ Hs) fn.res fun m => (match m with
     | [x] => K x h c
     | m => K (.tup m) h c)
    | _ => none)
   | false => none)
  | none => none
noncomputable def fnK (X : Cx) (P : Program) (hn : FuncId->List (Nat × Hint)) (k : Nat) (f : FuncId) (args res : List Sh) (a : El (qk3 args)) : Option (El (qiW res)) :=
 tupK args a fun xs => funK X P hn k (El (qiW res)) f [] xs [] 0 fun x h _ => outK h res x fun r => some r
def qq3 : List (FuncId × TCn)->FuncId->Option TCn
 | [], _ => none
 | (k, x) :: l, f => match Nat.beq k f with
  | true => some x
  | false => qq3 l f
abbrev LbT := List (FuncId × (LibK × Sh))
def qdI : LbT->FuncId->Option (LibK × Sh)
 | [], _ => none
 | (k, x) :: l, f => match Nat.beq k f with
  | true => some x
  | false => qdI l f
theorem norm1_sl {n : Nat} {l m : List (List DV)} (h : DV.norm1 (.sl n l) = DV.norm1 (.sl n m)) : l = m := by
 cases l <;> cases m <;> simp_all [DV.norm1]
theorem qbR (n : Nat) (l : List (List DV)) : (DV.norm1 (.sl n l)).single = true := by cases l <;> rfl
theorem qlN (n : Nat) (l : List (List DV)) : (DV.norm1 (.sl n l)).scalar = false := by cases l <;> rfl
theorem qeJ (n : Nat) (l : List (List DV)) : z1 (DV.norm1 (.sl n l)) = z1 (.sl n l) := by cases l <;> rfl
theorem norm1_k {k n : Nat} {l : List (List DV)} (h : k = n\/l = []) : DV.norm1 (.sl k l) = DV.norm1 (.sl n l) := by
 rcases h with rfl | rfl <;> rfl
inductive VR (σ : Nat->Option Id) (H : HpT) : TV->AV->Prop
 | lit (b : Bool) : VR σ H (.lit b) (.val (.bool b))
 | d (x : DV) (h : x.single = true) : VR σ H (.d x) (.val x)
 | nil (k : Nat) : VR σ H .nil (.val (.nils k))
 | sl (s : Sh) (l : List (El s)) (k : Nat) (hf : s.fine = true) (hk : k = s.size\/l = []) : VR σ H (.sl s l) (.val (.sl k (l.map (qe1 s))))
 | sln (s : Sh) (k : Nat) (hf : s.fine = true) : VR σ H (.sl s []) (.val (.nils k))
 | own (i : Nat) (id : Id) (s : Sh) (l : List (El s)) (w : Bool) (h : qa0 H i = some (.row s l w)) (hi : σ i = some id) : VR σ H (.own i) (.row id s.size 0 l.length)
 | ownN (i : Nat) (s : Sh) (l : List (El s)) (w : Bool) (k : Nat) (h : qa0 H i = some (.row s l w)) (hi : σ i = none) (hl : l = []) : VR σ H (.own i) (.val (.nils k))
 | ownD (i : Nat) (id : Id) (k o n : Nat) (h : qa0 H i = some .dead) : VR σ H (.own i) (.row id k o n)
 | ownDN (i : Nat) (k : Nat) (h : qa0 H i = some .dead) : VR σ H (.own i) (.val (.nils k))
 | row (i o n : Nat) (id : Id) (s : Sh) (l : List (El s)) (w : Bool) (h : qa0 H i = some (.row s l w)) (hi : σ i = some id) (ho : o + n<=l.length) : VR σ H (.row i o n) (.row id s.size o n)
 | rowN (i : Nat) (s : Sh) (l : List (El s)) (w : Bool) (k : Nat) (h : qa0 H i = some (.row s l w)) (hi : σ i = none) (hl : l = []) : VR σ H (.row i 0 0) (.val (.nils k))
 | rowD (i o n : Nat) (id : Id) (k o' n' : Nat) (h : qa0 H i = some .dead) : VR σ H (.row i o n) (.row id k o' n')
 | rowDN (i o n : Nat) (k : Nat) (h : qa0 H i = some .dead) : VR σ H (.row i o n) (.val (.nils k))
 | agg (l : List TV) (ys : List AV) (hl : ys.length = l.length) (h : ∀ (j : Nat) x y, l[j]? = some x->ys[j]? = some y->VR σ H x y) : VR σ H (.agg l) (.agg ys)
 | aggv (l : List TV) (ds : List DV) (hl : ds.length = l.length) (h : ∀ (j : Nat) x y, l[j]? = some x->ds[j]? = some y->VR σ H x (.val y)) : VR σ H (.agg l) (.val (.agg ds))
 | tup (l : List TV) (ys : List AV) (hl : ys.length = l.length) (h : ∀ (j : Nat) x y, l[j]? = some x->ys[j]? = some y->VR σ H x y) : VR σ H (.tup l) (.tup ys)
 | tupv (l : List TV) (ds : List DV) (hl : ds.length = l.length) (h : ∀ (j : Nat) x y, l[j]? = some x->ds[j]? = some y->VR σ H x (.val y)) : VR σ H (.tup l) (.val (.tup ds))
 | box (i o : Nat) (id : Id) (b : TB) (h : qa0 H i = some b) (hi : σ i = some id) : VR σ H (.box i o) (.box id o)
 | elt (i j o : Nat) (id : Id) (b : TB) (h : qa0 H i = some b) (hi : σ i = some id) : VR σ H (.elt i j o) (.elt id j o)
 | eltD (i j o : Nat) (id : Id) (h : qa0 H i = some .dead) : VR σ H (.elt i j o) (.elt id j o)
 | win (i s o n : Nat) (id : Id) (b : TB) (h : qa0 H i = some b) (hi : σ i = some id) : VR σ H (.win i s o n) (.row id s o n)
 | pt (s : Sh) (x : El s) (o : Nat) (hf : s.fine = true) : VR σ H (.pt s x o) (.val (.pt ((qe1 s x).drop o)))
 | clo (f : FuncId) (l : List TV) (ys : List AV) (hl : ys.length = l.length) (h : ∀ (j : Nat) x y, l[j]? = some x->ys[j]? = some y->VR σ H x y) : VR σ H (.clo f l) (.clo f ys)
 | clov (f : FuncId) (l : List TV) (ds : List DV) (hl : ds.length = l.length) (h : ∀ (j : Nat) x y, l[j]? = some x->ds[j]? = some y->VR σ H x (.val y)) : VR σ H (.clo f l) (.val (.fn f ds))
 | undef : VR σ H .undef (.val (.tup []))
 | undefM (x : AV) : VR σ H .undef (.may false x)
 | junk (y : AV) : VR σ H .junk y
def VRs (σ : Nat->Option Id) (H : HpT) (l : List TV) (ys : List AV) : Prop := ys.length = l.length/\∀ (j : Nat) x y, l[j]? = some x->ys[j]? = some y->VR σ H x y
def VRm (σ : Nat->Option Id) (H : HpT) (x : TV) (y : AV) : Prop := VR σ H x y\/∃ z, y = .may true z/\VR σ H x z/\x ≠ .undef
section
variable {σ : Nat->Option Id} {H : HpT} {ρ : Type}
theorem qnQ (x : TV) (K : TV->Option ρ) : fT x K = K x := by cases x <;> rfl
theorem qeK : ∀ (l : List TV) (K : List TV->Option ρ), fL l K = K l
 | [], _ => rfl
 | x :: l, K => by simp only [fL, qnQ, qeK l]
theorem fS_eq {α : Type} : ∀ (l : List α) (K : List α->Option ρ), fS l K = K l
 | [], _ => rfl
 | x :: l, K => by simp only [fS, fS_eq l]
theorem qbS : ∀ (l : HpT) (K : HpT->Option ρ), fH l K = K l
 | [], _ => rfl
 | (k, x) :: l, K => by simp only [fH, qbS l]
theorem qi9 {α : Type} {x : Option α} {f : α->Option ρ} {r : ρ} (h : bX x f = some r) : ∃ v, x = some v/\f v = some r := Option.bind_eq_some_iff.1 h
theorem qlO {t : Bool} {a b : Option ρ} {r : ρ} (h : cX t a b = some r) : (t = true/\a = some r)\/(t = false/\b = some r) := by
 cases t
 ·exact .inr ⟨rfl, h⟩
 ·exact .inl ⟨rfl, h⟩
theorem qs4 {t : Bool} {a : Option ρ} {r : ρ} (h : cX t a none = some r) : t = true/\a = some r := by
 cases t
 ·cases h
 ·exact ⟨rfl, h⟩
theorem za1 {t : Bool} {a : Option ρ} {r : ρ} (h : cX t none a = some r) : t = false/\a = some r := by
 cases t
 ·exact ⟨rfl, h⟩
 ·cases h
theorem qb2 {a b : Nat} (h : Nat.beq a b = true) : a = b := Nat.eq_of_beq_eq_true h
theorem qg3 {a b : Nat} (h : Nat.ble a b = true) : a<=b := Nat.le_of_ble_eq_true h
theorem VRs.nil : VRs σ H [] [] := ⟨rfl, by simp⟩
theorem VRs.cons {x : TV} {y : AV} {l : List TV} {ys : List AV} (h : VR σ H x y) (h' : VRs σ H l ys) : VRs σ H (x :: l) (y :: ys) := by
 refine ⟨by simp [h'.1], fun j a b h1 h2 => ?_⟩;cases j with
 | zero => simp at h1 h2; subst h1; subst h2; exact h
 | succ j => simp at h1 h2; exact h'.2 j a b h1 h2
theorem VRs.cons_inv {x : TV} {l : List TV} {ys : List AV} (h : VRs σ H (x :: l) ys) : ∃ y ys', ys = y :: ys'/\VR σ H x y/\VRs σ H l ys' := by
 obtain ⟨hl, hr⟩ := h;cases ys with
 | nil => simp at hl
 | cons y ys => exact ⟨y, ys, rfl, hr 0 x y rfl rfl, by simpa using hl, fun j a b h1 h2 => hr (j + 1) a b (by simpa using h1) (by simpa using h2)⟩
theorem VRs.nil_inv {ys : List AV} (h : VRs σ H [] ys) : ys = [] := List.eq_nil_of_length_eq_zero (by simpa using h.1)
theorem VRs.append {l m : List TV} {ys zs : List AV} (h : VRs σ H l ys) (h' : VRs σ H m zs) : VRs σ H (l ++ m) (ys ++ zs) := by
 induction l generalizing ys with
 | nil => cases h.nil_inv; exact h'
 | cons x l ih =>
  obtain ⟨y, ys, rfl, h1, h2⟩ := h.cons_inv;exact .cons h1 (ih h2)
theorem VRs.drop {l : List TV} {ys : List AV} (h : VRs σ H l ys) (n : Nat) : VRs σ H (l.drop n) (ys.drop n) :=
 ⟨by simp [h.1], fun j a b h1 h2 => h.2 (n + j) a b (by simpa using h1) (by simpa using h2)⟩
theorem VRs.take {l : List TV} {ys : List AV} (h : VRs σ H l ys) (n : Nat) : VRs σ H (l.take n) (ys.take n) := by
 refine ⟨by simp [h.1], fun j a b h1 h2 => ?_⟩;rw [List.getElem?_take] at h1 h2;split at h1
 ·rename_i hj
  rw [if_pos hj] at h2;exact h.2 j a b h1 h2
 ·cases h1
theorem VRs.splice {l m : List TV} {ys zs : List AV} (h : VRs σ H l ys) (h' : VRs σ H m zs) (o : Nat) : VRs σ H (splice l o m) (splice ys o zs) := by
 unfold Go.AI.splice;rw [h'.1];exact ((h.take o).append h').append (h.drop _)
theorem VRs.map {l : List Opd} {E : Opd->TV} {q : Opd->AV} (h : ∀ x, VR σ H (E x) (q x)) : VRs σ H (l.map E) (l.map q) := by
 induction l with
 | nil => exact .nil
 | cons x l ih => exact .cons (h x) ih
theorem VRs.get {l : List TV} {ys : List AV} (h : VRs σ H l ys) {j : Nat} {x : TV} (hj : l[j]? = some x) : ∃ y, ys[j]? = some y/\VR σ H x y := by
 have : j < ys.length := by rw [h.1]; exact (List.getElem?_eq_some_iff.1 hj).1
 exact ⟨_, List.getElem?_eq_getElem this, h.2 j x _ hj (List.getElem?_eq_getElem this)⟩
theorem VRs.ofV {l : List TV} {ds : List DV} (hl : ds.length = l.length) (h : ∀ (j : Nat) x y, l[j]? = some x->ds[j]? = some y->VR σ H x (.val y)) : VRs σ H l (ds.map .val) := by
 refine ⟨by simpa using hl, fun j x y h1 h2 => ?_⟩;rw [List.getElem?_map] at h2;cases hd : ds[j]? with
 | none => rw [hd] at h2; cases h2
 | some d => rw [hd] at h2; cases h2; exact h j x d h1 hd
theorem VRs.toV {l : List TV} {ds : List DV} (h : VRs σ H l (ds.map .val)) : ds.length = l.length/\∀ (j : Nat) x y, l[j]? = some x->ds[j]? = some y->VR σ H x (.val y) :=
 ⟨by simpa using h.1, fun j x y h1 h2 => h.2 j x _ h1 (by rw [List.getElem?_map, h2]; rfl)⟩
theorem qu7 {x : TV} {y : AV} {b : Bool} (h : VR σ H x y) (hx : asB x = some b) : y = .val (.bool b) := by
 cases h <;> simp only [asB, reduceCtorEq, Option.some.injEq] at hx
 ·subst hx; rfl
 ·rename_i d hd
  split at hx
  ·rename_i he; cases he; cases hx; rfl
  ·rename_i he; cases he
  ·cases hx
theorem qwX {x : TV} {y : AV} {n : Int} (h : VR σ H x y) (hx : asI x = some n) : ∃ k, y = .val (.int k n) := by
 cases h <;> simp only [asI, reduceCtorEq] at hx
 rename_i d hd;split at hx
 ·rename_i he; cases he; cases hx; exact ⟨_, rfl⟩
 ·cases hx
theorem qaL {x : TV} {y : AV} {n : Int} (h : VR σ H x y) (hx : asI x = some n) : y.num = some n := by
 obtain ⟨k, rfl⟩ := qwX h hx;rfl
theorem qeL {x : TV} {y : AV} {b : ByteArray} (h : VR σ H x y) (hx : asS x = some b) : y = .val (.str b) := by
 cases h <;> simp only [asS, reduceCtorEq] at hx
 rename_i d hd;split at hx
 ·rename_i he; cases he; cases hx; rfl
 ·cases hx
theorem VR.noLit {x : TV} {y : AV} (h : VR σ H x y) : VR σ H (noLit x) y := by
 cases x with
 | lit b => cases h; exact .d _ rfl
 | undef => exact .junk _
 | _ => exact h
theorem za2 (d : DV) : VR σ H (zk8 d) (.val d) := by
 unfold zk8;split
 ·exact .clov _ _ [] rfl (by simp)
 ·exact .nil _
 ·split
  ·exact .d _ ‹_›
  ·exact .junk _
theorem qr8 (l : List DV) : VRs σ H (l.map zk8) (l.map .val) := by
 induction l with
 | nil => exact .nil
 | cons d l ih => exact .cons (za2 d) ih
theorem zr6 (d : DV) : VR σ H (ofD d) (.val d) := by
 unfold ofD;split
 ·have := qr8 (σ := σ) (H := H) ‹List DV›
  exact .aggv _ _ this.toV.1 this.toV.2
 ·have := qr8 (σ := σ) (H := H) ‹List DV›
  exact .tupv _ _ this.toV.1 this.toV.2
 ·exact za2 _
theorem qk9 : ∀ (s : Sh) (x : El s), (qe1 s x).length = s.size
 | .bool, _ => rfl
 | .int _, _ => rfl
 | .str, _ => rfl
 | .ptr _, x => nomatch x
 | .slice _ _, _ => rfl
 | .nil, _ => rfl
 | .cons a b, x => by simp only [qe1, List.length_append, qk9 a, qk9 b, Sh.size]
theorem qcT : ∀ (s : Sh) (x : El s), s.fine = true->VRs σ H (encT s x) ((qe1 s x).map .val)
 | .bool, b, _ => .cons (.d _ rfl) .nil
 | .int _, b, _ => .cons (.d _ rfl) .nil
 | .str, b, _ => .cons (.d _ rfl) .nil
 | .ptr _, x, _ => nomatch x
 | .slice n s, l, h => by
  simp only [Sh.fine, Bool.and_eq_true] at h;have := qb2 h.1;subst this;cases l with
  | nil => exact .cons (.sl s [] 0 h.2 (.inr rfl)) .nil
  | cons x l => exact .cons (.sl s (x :: l) _ h.2 (.inl rfl)) .nil
 | .nil, _, _ => .nil
 | .cons a b, x, h => by
  simp only [Sh.fine, Bool.and_eq_true] at h;simp only [encT, qe1, List.map_append];exact (qcT a x.1 h.1).append (qcT b x.2 h.2)
theorem qu0 {x : TV} {y : AV} {cs : List TV} (h : VR σ H x y) (hx : qiE x = some cs) : ∃ ys, y.cells = some ys/\VRs σ H cs ys := by
 have one : ∀ {x : TV} {y : AV}, VR σ H x y->y.cells = some [y]->some [x] = some cs->∃ ys, y.cells = some ys/\VRs σ H cs ys := by
  intro x y h h1 h2;cases h2;exact ⟨_, h1, .cons h .nil⟩
 cases h <;> simp only [qiE, reduceCtorEq] at hx
 case lit b => cases hx; exact ⟨_, rfl, .cons (.d _ rfl) .nil⟩
 case d x h => exact one (.d _ h) (by cases x <;> first | rfl | simp [DV.single] at h) hx
 case nil k => exact one (.nil k) rfl hx
 case sl s l k hf hk => exact one (.sl _ _ _ hf hk) rfl hx
 case sln s k hf => exact one (.sln _ _ hf) rfl hx
 case own i id s l w h hi => exact one (.own i id s l w h hi) rfl hx
 case ownN i s l w k h hi hl => exact one (.ownN i s l w k h hi hl) rfl hx
 case ownD i id k o n h => exact one (.ownD i id k o n h) rfl hx
 case ownDN i k h => exact one (.ownDN i k h) rfl hx
 case row i o n id s l w h hi ho => exact one (.row i o n id s l w h hi ho) rfl hx
 case rowN i s l w k h hi hl => exact one (.rowN i s l w k h hi hl) rfl hx
 case rowD i o n id k o' n' h => exact one (.rowD i o n id k o' n' h) rfl hx
 case rowDN i o n k h => exact one (.rowDN i o n k h) rfl hx
 case agg l ys hl h => cases hx; exact ⟨_, rfl, hl, h⟩
 case aggv l ds hl h => cases hx; exact ⟨_, rfl, .ofV hl h⟩
 case box i o id b h hi => exact one (.box i o id b h hi) rfl hx
 case elt i j o id b h hi => exact one (.elt i j o id b h hi) rfl hx
 case win i s o n id b h hi => exact one (.win i s o n id b h hi) rfl hx
 case eltD i j o id h => exact one (.eltD i j o id h) rfl hx
 case pt s x o hf => exact one (.pt s x o hf) rfl hx
 case clo f l ys hl h => exact one (.clo f l ys hl h) rfl hx
 case clov f l ds hl h => exact one (.clov f l ds hl h) rfl hx
theorem qtQ {agg : Bool} {l : List TV} {ys : List AV} (h : VRs σ H l ys) {K : TV->Option ρ} {r : ρ} (hK : qp4 agg l K = some r) : ∃ y x, qw7 agg ys = some y/\VR σ H x y/\K x = some r := by
 cases agg with
 | true =>
  simp only [qp4, qeK] at hK;exact ⟨_, _, rfl, .agg l ys h.1 h.2, hK⟩
 | false =>
  simp only [qp4] at hK;split at hK
  ·rename_i x
   rw [qnQ] at hK;obtain ⟨y, ys', rfl, h1, h2⟩ := h.cons_inv;cases h2.nil_inv;exact ⟨y, x, rfl, h1, hK⟩
  ·cases hK
theorem qfR {agg : Bool} {l : List TV} {ds : List DV} (h : VRs σ H l (ds.map .val)) {K : TV->Option ρ} {r : ρ} (hK : qp4 agg l K = some r) : ∃ y x, ql8 agg ds = some y/\VR σ H x y/\K x = some r := by
 cases agg with
 | true =>
  simp only [qp4, qeK] at hK;exact ⟨_, _, rfl, .aggv l ds h.toV.1 h.toV.2, hK⟩
 | false =>
  simp only [qp4] at hK;split at hK
  ·rename_i x
   rw [qnQ] at hK
   match ds, h with
   | [d], h =>
    obtain ⟨y, ys', he, h1, h2⟩ := h.cons_inv;simp at he;obtain ⟨rfl, rfl⟩ := he;exact ⟨_, x, rfl, h1, hK⟩
   | [], h => simp [VRs] at h
   | a :: b :: ds, h => simp [VRs] at h
  ·cases hK
theorem qfS {l : List TV} {ys : List AV} {o n : Nat} {agg : Bool} (h : VRs σ H l ys) {K : TV->Option ρ} {r : ρ} (hK : qdG l o n agg K = some r) : o + n<=ys.length/\∃ y x, qw7 agg ((ys.drop o).take n) = some y/\VR σ H x y/\K x = some r := by
 unfold qdG at hK;split at hK
 ·rename_i hb
  exact ⟨by rw [h.1]; exact qg3 hb, qtQ ((h.drop o).take n) hK⟩
 ·cases hK
theorem qhD {l : List TV} {ds : List DV} {o n : Nat} {agg : Bool} (h : VRs σ H l (ds.map .val)) {K : TV->Option ρ} {r : ρ} (hK : qdG l o n agg K = some r) : o + n<=ds.length/\∃ y x, ql8 agg ((ds.drop o).take n) = some y/\VR σ H x y/\K x = some r := by
 unfold qdG at hK;split at hK
 ·rename_i hb
  have h1 := (h.drop o).take n;rw [← List.map_drop, ← List.map_take] at h1;exact ⟨by have := h.1; simp at this; rw [this]; exact qg3 hb, qfR h1 hK⟩
 ·cases hK
theorem za3 {l : List TV} {y : AV} {o n : Nat} {agg : Bool} (h : VR σ H (.agg l) y) {K : TV->Option ρ} {r : ρ} (hK : qdG l o n agg K = some r) : ∃ z x, y.part o n agg = some z/\VR σ H x z/\K x = some r := by
 cases h with
 | agg _ ys hl h =>
  obtain ⟨h1, z, x, h2, h3⟩ := qfS (⟨hl, h⟩ : VRs σ H l ys) hK;exact ⟨z, x, by simp only [AV.part]; rw [if_pos h1]; exact h2, h3⟩
 | aggv _ ds hl h =>
  obtain ⟨h1, z, x, h2, h3⟩ := qhD (.ofV hl h : VRs σ H l (ds.map .val)) hK;exact ⟨z, x, by simp only [AV.part]; rw [if_pos h1]; exact h2, h3⟩
theorem qhE : ∀ {l : List TV} {ys : List AV} {ds : List DV}, VRs σ H l ys->qzW l = some ds->qbH ys = some ds
 | [], ys, ds, h, hd => by cases h.nil_inv; cases hd; rfl
 | x :: l, ys, ds, h, hd => by
  obtain ⟨y, ys, rfl, h1, h2⟩ := h.cons_inv;unfold qzW at hd;split at hd
  ·cases ‹_ = []›
  ·rename_i x' l' he
   cases he;split at hd
   ·rename_i m hm
    cases hd;cases h1;simp only [qbH, qhE h2 hm, Option.map_some]
   ·cases hd
  ·cases hd
theorem qtR : ∀ {ds : List DV}, qbH (ds.map .val) = some ds
 | [] => rfl
 | d :: l => by simp only [List.map_cons, qbH, qtR, Option.map_some]
theorem qtS {x : TV} {y : AV} {ds : List DV} (h : VR σ H x y) (hx : aggDT x = some ds) : y.aggD = some ds := by
 cases h <;> simp only [aggDT, reduceCtorEq] at hx
 case agg l ys hl h => exact qhE ⟨hl, h⟩ hx
 case aggv l es hl h =>
  have := qhE (.ofV hl h) hx;rw [qtR] at this;simpa [AV.aggD] using this
end
section
variable {σ : Nat->Option Id} {H : HpT} {ρ : Type}
def BR (σ : Nat->Option Id) (H : HpT) (A : Hp) (i : Nat) : TB->Prop
 | .box cells => ∃ id ys, σ i = some id/\A id = some (.box ys)/\VRs σ H cells ys/\ys.all AV.single = true
 | .row s l true => s.fine = true/\((∃ id, σ i = some id/\A id = some (.row s.size (l.map (qe1 s))))\/(σ i = none/\l = []))
 | .row s l false => s.fine = true/\((∃ id, σ i = some id/\A id = some (.frow s.size (l.map (qe1 s))))\/(σ i = none/\l = []))
 | .fns s l => ∃ id ys, σ i = some id/\A id = some (.fns s ys)/\ys.length = l.length/\∀ (j : Nat) x y, l[j]? = some x->ys[j]? = some y->VRs σ H x y
 | .dead => True
def BRs (σ : Nat->Option Id) (H : HpT) (A : Hp) : Prop := ∀ i b, qa0 H i = some b->BR σ H A i b
theorem BR.fine {A : Hp} {i : Nat} {s : Sh} {l : List (El s)} {w : Bool} (h : BR σ H A i (.row s l w)) : s.fine = true := by
 cases w <;> exact h.1
theorem za4 {z : AV} {b t : Bool} (h : unw true z = .val (.bool b)) : unw t z = .val (.bool b) := by
 cases z with
 | may c x =>
  cases c
  ·simp [unw] at h
  ·simpa [unw] using h
 | _ => exact h
theorem zh1 (x y : AV) : qqE true x y = x := by
 unfold qqE;split
 ·rfl
 ·rfl
theorem qwY (x y : AV) : qqE false x y = y := by
 unfold qqE;split
 ·rfl
 ·rfl
theorem qwZ {op : BinOp} {a b r : DV} (h : qsE op a b = some r) : r.single = true := by
 unfold qsE at h
 repeat' (first | split at h | (cases h; rfl) | (cases h; done) | (simp only [Option.some.injEq] at h; subst h; rfl))
theorem zh2 {op : UnOp} {a r : DV} (h : unD op a = some r) : r.single = true := by
 unfold unD at h;split at h <;> first | (cases h; rfl) | cases h
theorem qh4 {E : Opd->TV} {q : Opd->AV} (hE : ∀ x, VR σ H (E x) (q x)) {d n : Int} {m : Option Opd} (h : qtN E d m = some n) : qo4 q d m = some n := by
 cases m with
 | none => exact h
 | some m => exact qaL (hE m) h
theorem zr7 {gt : Bool} : ∀ {l : List TV} {ys : List AV} {a n : Int}, VRs σ H l ys->mmT gt a l = some n->qjZ gt a ys = some n
 | [], ys, a, n, h, hm => by cases h.nil_inv; exact hm
 | x :: l, ys, a, n, h, hm => by
  obtain ⟨y, ys, rfl, h1, h2⟩ := h.cons_inv;unfold mmT at hm;split at hm
  ·rename_i b hb
   obtain ⟨k, rfl⟩ := qwX h1 hb;simp only [qjZ];exact zr7 h2 hm
  ·cases hm
theorem qoR {E : Opd->TV} {q : Opd->AV} (hE : ∀ x, VR σ H (E x) (q x)) : ∀ {ps : List (Nat × Nat × Opd)} {cs : List TV} {ys : List AV} {l : List TV}, VRs σ H cs ys->qzX E cs ps = some l->∃ zs, parts q ys ps = some zs/\VRs σ H l zs
 | [], cs, ys, l, h, hp => by cases hp; exact ⟨ys, rfl, h⟩
 | (o, n, x) :: ps, cs, ys, l, h, hp => by
  unfold qzX at hp;split at hp
  ·rename_i xs hxs
   split at hp
   ·rename_i hb
    rw [Bool.and_eq_true] at hb;obtain ⟨zs, h1, h2⟩ := qu0 (hE x) hxs;obtain ⟨us, h3, h4⟩ := qoR hE (h.splice h2 o) hp;refine ⟨us, ?_, h4⟩;simp only [parts, h1];rw [if_pos ⟨by rw [h2.1]; exact qb2 hb.1, by rw [h.1]; exact qg3 hb.2⟩];exact h3
   ·cases hp
  ·cases hp
theorem binK_rel {op : BinOp} {x y : TV} {u v : AV} (hx : VR σ H x u) (hy : VR σ H y v) {K : TV->Option ρ} {r : ρ} (hK : binK op x y K = some r) : ∃ z t, (match u, v with
  | .val a, .val b => (qsE op a b).map AV.val
  | _, _ => none) = some z/\VR σ H t z/\K t = some r := by
 unfold binK at hK;split at hK
 ·rename_i a b
  cases hx;cases hy;simp only;split at hK
  ·rename_i k a k' b
   split at hK
   ·rename_i hk _
    obtain ⟨h1, h2⟩ := za1 hK;subst hk;refine ⟨_, _, ?_, .d _ rfl, h2⟩;have h1 := of_decide_eq_false h1;simp [qsE, h1]
   ·cases hK
  ·rename_i k a k' b
   split at hK
   ·rename_i hk _
    obtain ⟨h1, h2⟩ := za1 hK;subst hk;refine ⟨_, _, ?_, .d _ rfl, h2⟩;have h1 := of_decide_eq_false h1;simp [qsE, h1]
   ·cases hK
  ·rename_i k a k' b
   obtain ⟨h1, h2⟩ := qs4 hK;refine ⟨_, _, ?_, .d _ rfl, h2⟩;simp only [decide_eq_true_eq] at h1;simp [qsE, h1]
  ·rename_i k a k' b
   obtain ⟨h1, h2⟩ := qs4 hK;refine ⟨_, _, ?_, .d _ rfl, h2⟩;simp only [decide_eq_true_eq] at h1;simp [qsE, h1]
  ·rename_i a b
   obtain ⟨h1, h2⟩ := qs4 hK;refine ⟨_, _, ?_, .d _ rfl, h2⟩;simp only [decide_eq_true_eq] at h1;simp [qsE, h1]
  ·split at hK
   ·rename_i d hd
    exact ⟨_, _, by rw [hd]; rfl, .d _ (qwZ hd), hK⟩
   ·cases hK
 ·cases hK
theorem qqS {s : Sh} {l m : List (El s)} {a b : Int} (h : qp0 l a b = some m) : 0<=a/\a<=b/\b<=(l.length : Int)/\m = (l.take b.toNat).drop a.toNat := by
 unfold qp0 at h;split at h
 ·cases h; rename_i h; exact ⟨h.1, h.2.1, h.2.2, rfl⟩
 ·cases h
theorem qm2 {q : Opd->AV} {n : Nat} {lo hi : Option Opd} {a b : Int} (e1 : qo4 q 0 lo = some a) (e2 : qo4 q (n : Int) hi = some b) (h : 0<=a/\a<=b/\b<=(n : Int)) : qm6 n q lo hi none = some (a.toNat, b.toNat, n) := by
 unfold qm6;rw [e1, e2];simp only [qo4];rw [if_pos ⟨h.1, h.2.1, h.2.2, Int.le_refl _⟩];simp
theorem VR.d_inv {d : DV} {y : AV} (h : VR σ H (.d d) y) : y = .val d := by cases h; rfl
theorem qtT : ∀ n, (repS n (.int .u8)).fine = true
 | 0 => rfl
 | n + 1 => by simp only [repS, Sh.fine, qtT n, Bool.and_self]
theorem qtU : ∀ {n : Nat} {l : List Int} {v : El (repS n (.int .u8))}, arrB n l = some v->n<=l.length/\qe1 (repS n (.int .u8)) v = ((List.map (qe1 (.int .u8)) l).take n).flatten
 | 0, l, v, _ => ⟨Nat.zero_le _, rfl⟩
 | n + 1, [], v, h => by cases h
 | n + 1, x :: l, v, h => by
  unfold arrB at h;split at h
  ·rename_i y hy
   cases h;obtain ⟨h1, h2⟩ := qtU hy;refine ⟨by simpa using h1, ?_⟩;show qe1 (.int .u8) x ++ qe1 (repS n (.int .u8)) y = _;rw [h2];rfl
  ·cases h
theorem VR.own_inv {i : Nat} {s : Sh} {l : List (El s)} {w : Bool} {y : AV} (h : VR σ H (.own i) y) (hi : qa0 H i = some (.row s l w)) : (∃ id, σ i = some id/\y = .row id s.size 0 l.length)\/(σ i = none/\l = []/\∃ k, y = .val (.nils k)) := by
 cases h with
 | own _ id s' l' w' h hs => rw [hi] at h; cases h; exact .inl ⟨id, hs, rfl⟩
 | ownN _ s' l' w' k h hs hl => rw [hi] at h; cases h; exact .inr ⟨hs, hl, k, rfl⟩
 | ownD _ id k o n h => rw [hi] at h; cases h
 | ownDN _ k h => rw [hi] at h; cases h
theorem VR.row_inv {i o n : Nat} {s : Sh} {l : List (El s)} {w : Bool} {y : AV} (h : VR σ H (.row i o n) y) (hi : qa0 H i = some (.row s l w)) : (∃ id, σ i = some id/\y = .row id s.size o n/\o + n<=l.length)\/(σ i = none/\l = []/\o = 0/\n = 0/\∃ k, y = .val (.nils k)) := by
 cases h with
 | row _ _ _ id s' l' w' h hs ho => rw [hi] at h; cases h; exact .inl ⟨id, hs, rfl, ho⟩
 | rowN _ s' l' w' k h hs hl => rw [hi] at h; cases h; exact .inr ⟨hs, hl, rfl, rfl, k, rfl⟩
 | rowD _ _ _ id k o n h => rw [hi] at h; cases h
 | rowDN _ _ _ k h => rw [hi] at h; cases h
theorem zr8 {A : Hp} (hB : BRs σ H A) {E R : Opd->TV} {q : Opd->AV} (hE : ∀ x, VR σ H (E x) (unw true (q x))) (hR : ∀ x, VR σ H (R x) (unw true (q x))\/R x = .undef) (op : POp) {K : TV->Option ρ} {r : ρ} (hK : qr7 H E R op K = some r) :
  ∃ z t, qe2 (fun x => unw true (q x)) (fun b x => unw b (q x)) op = some z/\VR σ H t z/\K t = some r := by
 have bl : ∀ b : Bool, VR σ H (.d (.bool b)) (.val (.bool b)) := fun b => .d _ rfl
 have it : ∀ (k : IntKind) (n : Int), VR σ H (.d (.int k n)) (.val (.int k n)) := fun k n => .d _ rfl
 cases op with
 | mv x =>
  simp only [qr7, qnQ] at hK;split at hK
  ·rename_i b hb
   rcases hR x with h | h
   ·rw [hb] at h
    exact ⟨_, _, rfl, h, hK⟩
   ·rw [hb] at h; cases h
  ·exact ⟨_, _, rfl, hE x, hK⟩
 | pick c a b =>
  simp only [qr7] at hK;have hc := hR c;split at hK
  ·rename_i he
   rw [he] at hc;rcases hc with hc | hc
   ·simp only [qnQ] at hK
    refine ⟨_, _, ?_, hE a, hK⟩;have : unw true (q c) = .val (.bool true) := by generalize unw true (q c) = z at hc; cases hc; rfl
    simp only [qe2, this, zh1]
   ·cases hc
  ·rename_i he
   rw [he] at hc;rcases hc with hc | hc
   ·simp only [qnQ] at hK
    refine ⟨_, _, ?_, hE b, hK⟩;have : unw true (q c) = .val (.bool false) := by generalize unw true (q c) = z at hc; cases hc; rfl
    simp only [qe2, this, qwY, Bool.not_false]
   ·cases hc
  ·rename_i t he
   rw [he] at hc;rcases hc with hc | hc
   ·have hq := hc.d_inv
    split at hK
    ·rename_i x y hx hy
     refine ⟨_, _, ?_, bl _, hK⟩;simp only [qe2, hq, za4 (qu7 (hE a) hx), za4 (qu7 (hE b) hy), qqE]
    ·cases hK
   ·cases hc
  ·cases hK
 | bin op x y =>
  obtain ⟨z, t, h1, h2, h3⟩ := binK_rel (hE x) (hE y) hK;exact ⟨z, t, h1, h2, h3⟩
 | eqs ks neg x y =>
  simp only [qr7] at hK;split at hK
  ·rename_i a b ha hb
   split at hK
   ·rename_i t ht
    have h1 : qe2 (fun x => unw true (q x)) (fun b x => unw b (q x)) (.eqs ks neg x y) = some (.val (.bool (if neg then !t else t))) := by
     simp only [qe2, qtS (hE x) ha, qtS (hE y) hb, ht, Option.map_some]
    split at hK
    ·exact ⟨_, _, h1, by simpa using bl _, hK⟩
    ·exact ⟨_, _, h1, by simpa using bl _, hK⟩
   ·cases hK
  ·cases hK
 | eqb neg x y =>
  simp only [qr7] at hK;split at hK
  ·rename_i a b ha hb
   have h1 : qe2 (fun x => unw true (q x)) (fun b x => unw b (q x)) (.eqb neg x y) = some (.val (.bool (if neg then a != b else a == b))) := by
    simp only [qe2, qu7 (hE x) ha, qu7 (hE y) hb]
   split at hK
   ·exact ⟨_, _, h1, by simpa using bl _, hK⟩
   ·exact ⟨_, _, h1, by simpa using bl _, hK⟩
  ·cases hK
 | eqn neg x =>
  simp only [qr7] at hK;have hx := hE x;split at hK
  ·rename_i he
   rw [he] at hx;exact ⟨_, _, by simp only [qe2, hx.d_inv], .lit _, hK⟩
  ·rename_i he
   rw [he] at hx;refine ⟨.val (.bool neg), _, ?_, .lit _, hK⟩;generalize hz : unw true (q x) = z at hx;cases hx <;> simp only [qe2, hz]
  ·rename_i he
   rw [he] at hx;refine ⟨.val (.bool neg), _, ?_, .lit _, hK⟩;generalize hz : unw true (q x) = z at hx;cases hx <;> simp only [qe2, hz]
  ·rename_i he
   rw [he] at hx;refine ⟨.val (.bool neg), _, ?_, .lit _, hK⟩;generalize hz : unw true (q x) = z at hx;cases hx <;> simp only [qe2, hz]
  ·cases hK
 | un op x =>
  simp only [qr7] at hK;have hx := hE x;split at hK
  ·rename_i a he
   rw [he] at hx;split at hK
   ·rename_i d hd
    exact ⟨_, _, by simp only [qe2, hx.d_inv, hd, Option.map_some], .d _ (zh2 hd), hK⟩
   ·cases hK
  ·cases hK
 | conv k x =>
  simp only [qr7] at hK;split at hK
  ·rename_i n hn
   obtain ⟨k', hk⟩ := qwX (hE x) hn;exact ⟨_, _, by simp only [qe2, hk], it _ _, hK⟩
  ·cases hK
 | build zero ps =>
  simp only [qr7] at hK;split at hK
  ·rename_i l hl
   rw [qeK] at hK;obtain ⟨zs, h1, h2⟩ := qoR hE (qr8 zero) hl;exact ⟨_, _, by simp only [qe2, h1, Option.map_some], .agg _ _ h2.1 h2.2, hK⟩
  ·cases hK
 | field o n agg x =>
  simp only [qr7] at hK;have hx := hE x;split at hK
  ·rename_i l he
   rw [he] at hx;exact za3 hx hK
  ·cases hK
 | idxS x i =>
  simp only [qr7] at hK;split at hK
  ·rename_i s n hs hn
   obtain ⟨b, h1, h2⟩ := qi9 hK;unfold idxB at h1;split at h1
   ·rename_i hb
    cases h1;refine ⟨_, _, ?_, it _ _, h2⟩;simp only [qe2, qeL (hE x) hs, qaL (hE i) hn];rw [if_pos hb]
   ·cases h1
  ·cases hK
 | idxA len s agg x i =>
  simp only [qr7] at hK;have hx := hE x;split at hK
  ·rename_i l n he hn
   rw [he] at hx;split at hK
   ·rename_i hb
    obtain ⟨z, t, h1, h2⟩ := za3 hx hK;refine ⟨z, t, ?_, h2⟩;simp only [qe2, qaL (hE i) hn];rw [if_pos (by simpa [inI] using hb)];exact h1
   ·cases hK
  ·cases hK
 | slS x lo hi =>
  simp only [qr7] at hK;split at hK
  ·rename_i s hs
   split at hK
   ·rename_i a b ha hb
    obtain ⟨v, h1, h2⟩ := qi9 hK;unfold subS at h1;split at h1
    ·rename_i hc
     cases h1;refine ⟨_, _, ?_, .d _ rfl, h2⟩;have e1 := qh4 hE ha;have e2 := qh4 hE hb;simp only [qe2, qeL (hE x) hs, qm2 e1 e2 hc, Option.map_some]
    ·cases h1
   ·cases hK
  ·cases hK
 | foff o x =>
  simp only [qr7] at hK;have hx := hE x;split at hK
  ·rename_i i j he
   rw [he] at hx;simp only [qe2];generalize unw true (q x) = z at hx;cases hx with
   | box _ _ id b h hi => exact ⟨_, _, rfl, .box _ _ id b h hi, hK⟩
  ·rename_i i j k he
   rw [he] at hx;simp only [qe2];generalize unw true (q x) = z at hx;cases hx with
   | elt _ _ _ id b h hi => exact ⟨_, _, rfl, .elt _ _ _ id b h hi, hK⟩
   | eltD _ _ _ id h => exact ⟨_, _, rfl, .eltD _ _ _ id h, hK⟩
  ·rename_i s x' k he
   rw [he] at hx;simp only [qe2];generalize unw true (q x) = z at hx;cases hx with
   | pt _ _ _ hf => exact ⟨_, _, rfl, by rw [List.drop_drop]; exact .pt _ _ _ hf, hK⟩
  ·cases hK
 | aoff len s x i =>
  simp only [qr7] at hK;have hx := hE x;split at hK
  ·rename_i n hn
   split at hK
   ·rename_i hb
    simp only [qe2, qaL (hE i) hn];rw [if_pos (by simpa [inI] using hb)];split at hK
    ·rename_i i j he
     rw [he] at hx;generalize unw true (q x) = z at hx;cases hx with
     | box _ _ id b h hi => exact ⟨_, _, rfl, .box _ _ id b h hi, hK⟩
    ·rename_i i j k he
     rw [he] at hx;generalize unw true (q x) = z at hx;cases hx with
     | elt _ _ _ id b h hi => exact ⟨_, _, rfl, .elt _ _ _ id b h hi, hK⟩
     | eltD _ _ _ id h => exact ⟨_, _, rfl, .eltD _ _ _ id h, hK⟩
    ·rename_i s x' k he
     rw [he] at hx;generalize unw true (q x) = z at hx;cases hx with
     | pt _ _ _ hf => exact ⟨_, _, rfl, by rw [List.drop_drop]; exact .pt _ _ _ hf, hK⟩
    ·cases hK
   ·cases hK
  ·cases hK
 | soff s x i =>
  simp only [qr7] at hK;have hx := hE x;split at hK
  ·rename_i n hn
   simp only [qe2, qaL (hE i) hn];split at hK
   ·rename_i sh l he
    rw [he] at hx;split at hK
    ·rename_i hs
     have hs := qb2 hs;obtain ⟨v, h1, h2⟩ := qi9 hK;unfold qj3 at h1;split at h1
     ·rename_i h0
      generalize unw true (q x) = z at hx;cases hx with
      | sl _ _ k hf hk =>
       refine ⟨.val (.pt (qe1 sh v)), _, ?_, .pt sh v 0 hf, h2⟩
       have hks : k = s := by
        rcases hk with hk | rfl
        ·rw [hk]; exact hs
        ·simp at h1
       simp only;rw [if_pos ⟨hks, h0⟩];simp [h1]
      | sln => simp at h1
     ·cases h1
    ·cases hK
   ·rename_i i' he
    rw [he] at hx;split at hK
    ·rename_i sh l w hb
     split at hK
     ·rename_i hs
      have hs := qb2 hs;obtain ⟨h1, h2⟩ := qs4 hK;have h1 : 0<=n/\n < (l.length : Int) := by simpa [inI] using h1
      rcases hx.own_inv hb with ⟨id, hi, hy⟩ | ⟨_, hl, _⟩
      ·rw [hy]
       refine ⟨_, _, ?_, .elt _ _ _ id _ hb hi, h2⟩;simp only;rw [if_pos ⟨hs, h1.1, h1.2⟩];simp
      ·subst hl; simp at h1; omega
     ·cases hK
    ·cases hK
   ·rename_i i' o m he
    rw [he] at hx;split at hK
    ·rename_i sh l w hb
     split at hK
     ·rename_i hs
      have hs := qb2 hs;obtain ⟨h1, h2⟩ := qs4 hK;have h1 : 0<=n/\n < (m : Int) := by simpa [inI] using h1
      rcases hx.row_inv hb with ⟨id, hi, hy, ho⟩ | ⟨_, hl, _, hm, _⟩
      ·rw [hy]
       refine ⟨_, _, ?_, .elt _ _ _ id _ hb hi, h2⟩;simp only;rw [if_pos ⟨hs, h1.1, h1.2⟩]
      ·subst hm; omega
     ·cases hK
    ·cases hK
   ·rename_i i' s' o m he
    rw [he] at hx;split at hK
    ·rename_i hs
     simp only [Bool.and_eq_true] at hs;have hs1 := qb2 hs.1;have h1 : 0<=n/\n < (m : Int) := by simpa [inI] using hs.2
     generalize unw true (q x) = z at hx;cases hx with
     | win _ _ _ _ id b hb hi =>
      refine ⟨_, _, ?_, .elt _ _ _ id _ hb hi, hK⟩;simp only;rw [if_pos ⟨hs1, h1.1, h1.2⟩]
    ·cases hK
   ·cases hK
  ·cases hK
 | slice s x lo hi mx =>
  simp only [qr7] at hK;have hx := hE x;split at hK
  ·rename_i sh l he
   rw [he] at hx;split at hK
   ·rename_i hs
    have hs := qb2 hs;split at hK
    ·split at hK
     ·rename_i a b ha hb
      obtain ⟨v, h1, h2⟩ := qi9 hK;obtain ⟨c1, c2, c3, rfl⟩ := qqS h1;have e1 := qh4 hE ha;generalize hz : unw true (q x) = z at hx;cases hx with
      | sl _ _ k hf hk =>
       have e2 := qh4 hE hb;refine ⟨_, _, ?_, .sl sh _ sh.size hf (.inl rfl), h2⟩;simp only [qe2, hz];rw [if_pos (hk.imp (fun h => h.trans hs) (fun h => by rw [h]; rfl)), List.length_map, qm2 e1 e2 ⟨c1, c2, c3⟩];simp [hs, List.map_take, List.map_drop]
      | sln _ k hf =>
       have e2 := qh4 hE hb;simp only [List.length_nil] at c3 e2;refine ⟨.val (.nils k), _, ?_, ?_, h2⟩
       ·simp only [qe2, hz, qm2 e1 e2 ⟨c1, c2, c3⟩, Option.map_some]
       ·simp only [List.take_nil, List.drop_nil]
        exact .sln sh k hf
     ·cases hK
    ·rename_i m
     split at hK
     ·rename_i hi
      split at hK
      ·rename_i a b m' ha hb hm
       split at hK
       ·rename_i h0
        simp only [decide_eq_true_eq] at h0;obtain ⟨rfl, rfl, rfl⟩ := h0;have e1 := qh4 hE ha;have e2 : ∀ d : Int, qo4 (fun x => unw true (q x)) d (some hi) = some 0 := fun d => qaL (hE hi) hb
        have e3 : ∀ d : Int, qo4 (fun x => unw true (q x)) d (some m) = some 0 := fun d => qaL (hE m) hm
        generalize hz : unw true (q x) = z at hx;cases hx with
        | sl _ _ k hf hk =>
         refine ⟨_, _, ?_, .nil s, hK⟩;simp only [qe2, hz];rw [if_pos (hk.imp (fun h => h.trans hs) (fun h => by rw [h]; rfl))];simp only [qm6, List.length_map, e1, e3, e2];rw [if_pos (by simp)];simp
        | sln _ k hf =>
         refine ⟨.val (.nils k), _, ?_, .nil k, hK⟩;simp only [qe2, hz, qm6, e1, e3, e2];rw [if_pos (by simp)];rfl
       ·cases hK
      ·cases hK
     ·cases hK
   ·cases hK
  ·rename_i he
   rw [he] at hx;obtain ⟨k, hq⟩ : ∃ k, unw true (q x) = .val (.nils k) := by generalize unw true (q x) = z at hx; cases hx; exact ⟨_, rfl⟩
   split at hK
   ·rename_i a b m ha hb hm
    obtain ⟨h1, h2⟩ := qs4 hK;simp only [decide_eq_true_eq] at h1;have e1 := qh4 hE ha;have e2 := qh4 hE hb;have e3 := qh4 hE hm;refine ⟨.val (.nils k), _, ?_, .nil k, h2⟩;simp only [qe2, hq, qm6];rw [e1, show qo4 (fun x => unw true (q x)) ((0 : Nat) : Int) hi = some b from e2, show qo4 (fun x => unw true (q x)) ((0 : Nat) : Int) mx = some m from e3];simp only;rw [if_pos (by omega)];rfl
   ·cases hK
  ·rename_i i' he
   rw [he] at hx;split at hK
   ·rename_i sh l w hb
    split at hK
    ·rename_i hs
     have hs := qb2 hs;split at hK
     ·rename_i a b ha hb'
      obtain ⟨h1, h2⟩ := qs4 hK;have h1 : 0<=a/\a<=b/\b<=(l.length : Int) := by simpa [qoP] using h1
      have e1 := qh4 hE ha;have e2 := qh4 hE hb';rcases hx.own_inv hb with ⟨id, hi, hy⟩ | ⟨hi, hl, k, hy⟩
      ·refine ⟨_, _, ?_, .row _ _ _ id sh l w hb hi (by omega), h2⟩
       simp only [qe2, hy];rw [if_neg (by simp [hs]), qm2 e1 e2 h1];simp [hs]
      ·subst hl
       simp only [List.length_nil] at h1 e2;have e3 := qm2 e1 e2 h1;have : a = 0/\b = 0 := by omega
       obtain ⟨rfl, rfl⟩ := this;refine ⟨.val (.nils k), _, ?_, .rowN _ sh [] w k hb hi rfl, h2⟩;simp only [qe2, hy, e3, Option.map_some]
     ·cases hK
    ·cases hK
   ·cases hK
  ·rename_i i' o n he
   rw [he] at hx;split at hK
   ·rename_i sh l w hb
    split at hK
    ·rename_i hs
     have hs := qb2 hs;split at hK
     ·rename_i a b ha hb'
      obtain ⟨h1, h2⟩ := qs4 hK;have h1 : 0<=a/\a<=b/\b<=(n : Int) := by simpa [qoP] using h1
      have e1 := qh4 hE ha;have e2 := qh4 hE hb';rcases hx.row_inv hb with ⟨id, hi, hy, ho⟩ | ⟨hi, hl, rfl, rfl, k, hy⟩
      ·refine ⟨_, _, ?_, .row _ _ _ id sh l w hb hi (by omega), h2⟩
       simp only [qe2, hy];rw [if_neg (by simp [hs]), qm2 e1 e2 h1];simp [hs]
      ·have e3 := qm2 e1 e2 h1
       have : a = 0/\b = 0 := by omega
       obtain ⟨rfl, rfl⟩ := this;refine ⟨.val (.nils k), _, ?_, .rowN _ sh l w k hb hi hl, h2⟩;simp only [qe2, hy, e3, Option.map_some]
     ·cases hK
    ·cases hK
   ·cases hK
  ·rename_i i' s' o n he
   rw [he] at hx;split at hK
   ·rename_i a b ha hb'
    split at hK
    ·rename_i hs
     simp only [Bool.and_eq_true] at hs;have hs1 := qb2 hs.1;have h1 : 0<=a/\a<=b/\b<=(n : Int) := by simpa [qoP] using hs.2
     have e1 := qh4 hE ha;have e2 := qh4 hE hb';generalize hz : unw true (q x) = z at hx;cases hx with
     | win _ _ _ _ id b hb hi =>
      refine ⟨_, _, ?_, .win _ _ _ _ id _ hb hi, hK⟩;simp only [qe2, hz];rw [if_neg (by simp [hs1]), qm2 e1 e2 h1];simp [hs1]
    ·cases hK
   ·cases hK
  ·cases hK
 | chk x =>
  simp only [qr7] at hK;have hx := hE x;split at hK
  ·rename_i he
   rw [he] at hx;simp only [qe2];generalize unw true (q x) = z at hx;cases hx with
   | box _ _ id b h hi => exact ⟨_, _, rfl, .box _ _ id b h hi, hK⟩
  ·rename_i he
   rw [he] at hx;simp only [qe2];generalize unw true (q x) = z at hx;cases hx with
   | elt _ _ _ id b h hi => exact ⟨_, _, rfl, .elt _ _ _ id b h hi, hK⟩
   | eltD _ _ _ id h => exact ⟨_, _, rfl, .eltD _ _ _ id h, hK⟩
  ·rename_i he
   rw [he] at hx;simp only [qe2];generalize unw true (q x) = z at hx;cases hx with
   | pt _ _ _ hf => exact ⟨_, _, rfl, .pt _ _ _ hf, hK⟩
  ·rename_i he
   rw [he] at hx;simp only [qe2];generalize unw true (q x) = z at hx;cases hx with
   | clo _ _ ys hl h => exact ⟨_, _, rfl, .clo _ _ ys hl h, hK⟩
   | clov _ _ ys hl h => exact ⟨_, _, rfl, .clov _ _ ys hl h, hK⟩
  ·cases hK
 | ext x i =>
  simp only [qr7] at hK;have hx := hE x;split at hK
  ·rename_i l he
   rw [he] at hx;split at hK
   ·rename_i y hy
    rw [qnQ] at hK;simp only [qe2];generalize unw true (q x) = z at hx;cases hx with
    | tup _ ys hl h =>
     obtain ⟨z, h1, h2⟩ := VRs.get (⟨hl, h⟩ : VRs σ H l ys) hy;exact ⟨z, y, h1, h2, hK⟩
    | tupv _ ds hl h =>
     obtain ⟨z, h1, h2⟩ := (VRs.ofV hl h).get hy;rw [List.getElem?_map] at h1;exact ⟨z, y, h1, h2, hK⟩
   ·cases hK
  ·cases hK
 | len x =>
  simp only [qr7] at hK;have hx := hE x;split at hK
  ·rename_i he
   rw [he] at hx;simp only [qe2];generalize unw true (q x) = z at hx;cases hx with
   | sl _ _ k hf hk => exact ⟨_, _, rfl, by simpa using it _ _, hK⟩
   | sln => exact ⟨_, _, rfl, it _ _, hK⟩
  ·rename_i he
   rw [he] at hx;simp only [qe2];generalize unw true (q x) = z at hx;cases hx;exact ⟨_, _, rfl, it _ _, hK⟩
  ·rename_i i' he
   rw [he] at hx;split at hK
   ·rename_i hb
    rcases hx.own_inv hb with ⟨id, hi, hy⟩ | ⟨hi, hl, k, hy⟩
    ·exact ⟨_, _, by simp only [qe2, hy], it _ _, hK⟩
    ·subst hl; exact ⟨_, _, by simp only [qe2, hy]; rfl, it _ _, hK⟩
   ·cases hK
  ·rename_i i' o n he
   rw [he] at hx;split at hK
   ·rename_i hb
    rcases hx.row_inv hb with ⟨id, hi, hy, _⟩ | ⟨hi, hl, _, rfl, k, hy⟩
    ·exact ⟨_, _, by simp only [qe2, hy], it _ _, hK⟩
    ·exact ⟨_, _, by simp only [qe2, hy]; rfl, it _ _, hK⟩
   ·cases hK
  ·rename_i i' s' o n he
   rw [he] at hx;simp only [qe2];generalize unw true (q x) = z at hx;cases hx with
   | win _ _ _ _ id b hb hi => exact ⟨_, _, rfl, it _ _, hK⟩
  ·cases hK
 | lenS x =>
  simp only [qr7] at hK;split at hK
  ·rename_i s hs
   exact ⟨_, _, by simp only [qe2, qeL (hE x) hs], it _ _, hK⟩
  ·cases hK
 | lenc n => exact ⟨_, _, rfl, it _ _, hK⟩
 | mnx gt x l =>
  simp only [qr7] at hK;have hx := hE x;split at hK
  ·rename_i k a he
   rw [he] at hx;split at hK
   ·rename_i n hn
    have := zr7 (VRs.map (l := l) hE) hn;exact ⟨_, _, by simp only [qe2, hx.d_inv, this, Option.map_some], it _ _, hK⟩
   ·cases hK
  ·cases hK
 | mkf f caps =>
  simp only [qr7, qeK] at hK;have := VRs.map (l := caps) hE;exact ⟨_, _, rfl, .clo _ _ _ this.1 this.2, hK⟩
 | s2a n x =>
  simp only [qr7] at hK;have hx := hE x;split at hK
  ·rename_i sh l he
   rw [he] at hx;split at hK
   ·rename_i hh _ h0
    obtain ⟨hh⟩ := hh;subst hh;have hK : bX (arrB n l) (fun x => K (.pt (repS n (.int .u8)) x 0)) = some r := hK;obtain ⟨v, hv, hK⟩ := qi9 hK;obtain ⟨a1, a2⟩ := qtU hv;have h0 : 0 < n := qg3 h0;generalize hz : unw true (q x) = z at hx;cases hx with
    | sl _ _ k hf hk =>
     refine ⟨.val (.pt ((l.map (qe1 (.int .u8))).take n).flatten), _, ?_, ?_, hK⟩
     ·simp only [qe2, hz]
      have hk1 : k = 1 := by
       rcases hk with hk | hk
       ·exact hk
       ·subst hk; exact absurd a1 (by show ¬ n<=0; omega)
      rw [if_pos ⟨hk1, by rw [List.length_map]; exact a1, h0⟩]
     ·have := VR.pt (σ := σ) (H := H) (repS n (.int .u8)) v 0 (qtT n)
      rw [a2] at this;exact this
    | sln => exact absurd a1 (by show ¬ n<=0; omega)
   ·cases hK
  ·cases hK
end
section
variable {σ : Nat->Option Id} {H : HpT} {ρ : Type} {A : Hp}
theorem zh3 {s' s : Sh} (h : s' = s) (l : List (El s')) (K : List (El s)->Option ρ) : cK h l K = K (h ▸ l) := by
 subst h;rfl
theorem qr9 {α β : Type} (l : List α) (f : α->β) : (l.map f).take l.length = l.map f := List.take_of_length_le (by simp)
theorem qqT (k : Nat) (d : DV) : qz9 A (k + 1) (.val d) = some (d.norm, []) := rfl
theorem qjO (hB : BRs σ H A) {s : Sh} {x : TV} {y : AV} (h : VR σ H x y) {K : List (El s)->List Nat->Option ρ} {r : ρ} (hK : rowK H s x K = some r) :
  ∃ l ids k, K l ids = some r/\(∀ n, qz9 A (n + 1) y = some (DV.norm1 (.sl k (l.map (qe1 s))), ids.filterMap σ))/\(k = s.size\/l = [])/\elems A s.size y = some (l.map (qe1 s))/\∀ i ∈ ids, ∃ s' l, qa0 H i = some (.row s' l true) := by
 unfold rowK at hK;split at hK
 ·rename_i s' l
  split at hK
  ·rename_i hh _
   obtain ⟨hh⟩ := hh;subst hh;rw [zh3] at hK;cases h with
   | sl _ _ k hf hk =>
    refine ⟨l, [], k, hK, fun n => rfl, hk, ?_, by simp⟩;simp only [elems];rw [if_pos (hk.imp id (fun h => by rw [h]; rfl))]
   | sln _ k hf => exact ⟨[], [], k, hK, fun n => rfl, .inr rfl, rfl, by simp⟩
  ·cases hK
 ·cases h with
  | nil k => exact ⟨[], [], k, hK, fun n => rfl, .inr rfl, rfl, by simp⟩
 ·rename_i i
  split at hK
  ·rename_i s' l w hi
   split at hK
   ·rename_i hh _
    obtain ⟨hh⟩ := hh;subst hh;rw [zh3] at hK;have hb := hB i _ hi;rcases h.own_inv hi with ⟨id, hs, rfl⟩ | ⟨hs, rfl, k, rfl⟩
    ·cases w with
     | true =>
      rcases hb.2 with ⟨id', hs', hA⟩ | ⟨hs', _⟩
      ·rw [hs] at hs'; cases hs'
       refine ⟨l, [i], _, hK, fun n => ?_, .inl rfl, ?_, ?_⟩
       ·simp only [qz9, hA]
        rw [if_pos ⟨trivial, by simp⟩];simp [hs, qr9]
       ·simp only [elems, if_true, hA]
        rw [if_pos ⟨trivial, by simp⟩];simp [qr9]
       ·intro j hj
        simp at hj;subst hj;exact ⟨_, _, hi⟩
      ·rw [hs] at hs'; cases hs'
     | false =>
      rcases hb.2 with ⟨id', hs', hA⟩ | ⟨hs', _⟩
      ·rw [hs] at hs'; cases hs'
       refine ⟨l, [], _, hK, fun n => ?_, .inl rfl, ?_, by simp⟩
       ·simp only [qz9, hA]
        rw [if_pos ⟨trivial, by simp⟩];simp [qr9]
       ·simp only [elems, if_true, hA]
        rw [if_pos ⟨trivial, by simp⟩];simp [qr9]
      ·rw [hs] at hs'; cases hs'
    ·cases w with
     | true =>
      refine ⟨[], [i], k, hK, fun n => ?_, .inr rfl, rfl, ?_⟩
      ·simp [qqT, hs, DV.norm, DV.norm1]
      ·intro j hj
       simp at hj;subst hj;exact ⟨_, _, hi⟩
     | false => exact ⟨[], [], k, hK, fun n => rfl, .inr rfl, rfl, by simp⟩
   ·cases hK
  ·cases hK
 ·rename_i i o n
  split at hK
  ·rename_i s' l w hi
   split at hK
   ·rename_i hh _
    obtain ⟨hh⟩ := hh;subst hh;rw [zh3] at hK;have hb := hB i _ hi;rcases h.row_inv hi with ⟨id, hs, rfl, ho⟩ | ⟨hs, rfl, rfl, rfl, k, rfl⟩
    ·cases w with
     | true =>
      rcases hb.2 with ⟨id', hs', hA⟩ | ⟨hs', _⟩
      ·rw [hs] at hs'; cases hs'
       refine ⟨(l.drop o).take n, [i], _, hK, fun n => ?_, .inl rfl, ?_, ?_⟩
       ·simp only [qz9, hA]
        rw [if_pos ⟨trivial, by simpa using ho⟩];simp [hs, List.map_take, List.map_drop]
       ·simp only [elems, if_true, hA]
        rw [if_pos ⟨trivial, by simpa using ho⟩];simp [List.map_take, List.map_drop]
       ·intro j hj
        simp at hj;subst hj;exact ⟨_, _, hi⟩
      ·rw [hs] at hs'; cases hs'
     | false =>
      rcases hb.2 with ⟨id', hs', hA⟩ | ⟨hs', _⟩
      ·rw [hs] at hs'; cases hs'
       refine ⟨(l.drop o).take n, [], _, hK, fun n => ?_, .inl rfl, ?_, by simp⟩
       ·simp only [qz9, hA]
        rw [if_pos ⟨trivial, by simpa using ho⟩];simp [List.map_take, List.map_drop]
       ·simp only [elems, if_true, hA]
        rw [if_pos ⟨trivial, by simpa using ho⟩];simp [List.map_take, List.map_drop]
      ·rw [hs] at hs'; cases hs'
    ·cases w with
     | true =>
      refine ⟨[], [i], k, hK, fun n => ?_, .inr rfl, rfl, ?_⟩
      ·simp [qqT, hs, DV.norm, DV.norm1]
      ·intro j hj
       simp at hj;subst hj;exact ⟨_, _, hi⟩
     | false => exact ⟨[], [], k, hK, fun n => rfl, .inr rfl, rfl, by simp⟩
   ·cases hK
  ·cases hK
 ·cases hK
inductive ArgL (A : Hp) : List AV->List DV->List Id->Prop
 | nil : ArgL A [] [] []
 | cons {y : AV} {ys : List AV} {d : DV} {ds : List DV} {a b : List Id} (h : ∀ n, qz9 A (n + 1) y = some (d, a)) (h' : ArgL A ys ds b) : ArgL A (y :: ys) (d :: ds) (a ++ b)
theorem ArgL.one {y : AV} {d : DV} (h : ∀ n, qz9 A (n + 1) y = some (d, [])) : ArgL A [y] [d] [] := .cons (a := []) h .nil
theorem ArgL.append {ys zs : List AV} {ds es : List DV} {p q : List Id} (h : ArgL A ys ds p) (h' : ArgL A zs es q) : ArgL A (ys ++ zs) (ds ++ es) (p ++ q) := by
 induction h with
 | nil => exact h'
 | cons h _ ih => rw [List.append_assoc]; exact .cons h ih
theorem ArgL.run {ys : List AV} {ds : List DV} {p : List Id} (h : ArgL A ys ds p) : ∀ k, ys.length < k->qf5 A k ys = some (ds, p) := by
 induction h with
 | nil => intro k hk; cases k with
  | zero => omega
  | succ k => rfl
 | @cons y ys d ds a b h _ ih =>
  intro k hk;cases k with
  | zero => omega
  | succ k =>
   simp only [List.length_cons] at hk;cases k with
   | zero => omega
   | succ k => simp only [qf5, h k, ih (k + 1) (by omega)]
theorem ArgL.length {ys : List AV} {ds : List DV} {p : List Id} (h : ArgL A ys ds p) : ds.length = ys.length := by
 induction h with
 | nil => rfl
 | cons _ _ ih => simp [ih]
def Ow (H : HpT) (i : Nat) : Prop := (∃ s l, qa0 H i = some (.row s l true))\/∃ cells, qa0 H i = some (.box cells)
def ivD (k : IntKind) (n : El (.int k)) : DV := .int k n
theorem qtV {k : IntKind} : ∀ {cs : List TV} {ys : List AV} {l : List (El (.int k))}, VRs σ H cs ys->intsT k cs = some l->ys = l.map (fun n => AV.val (ivD k n))
 | [], ys, l, h, hl => by cases h.nil_inv; cases hl; rfl
 | x :: cs, ys, l, h, hl => by
  obtain ⟨y, ys, rfl, h1, h2⟩ := h.cons_inv;unfold intsT at hl;split at hl
  ·rename_i he; cases he
  ·rename_i k' n cs' he
   cases he;split at hl
   ·rename_i hk m _ hm
    subst hk;cases hl;cases h1.d_inv;rw [qtV h2 hm];rfl
   ·cases hl
  ·cases hl
theorem qoS {k : IntKind} : ∀ (l : List (El (.int k))), qbH (l.map (fun n => AV.val (ivD k n))) = some (l.map fun n => ivD k n)
 | [] => rfl
 | n :: l => by simp only [List.map_cons, qbH, qoS l, Option.map_some]
theorem rowW_rel (hB : BRs σ H A) {s : Sh} {x : TV} {y : AV} (h : VR σ H x y) {K : List (El s)->List Nat->Option ρ} {r : ρ} (hK : rowW H s x K = some r) :
  ∃ l ids k, K l ids = some r/\(∀ n, qz9 A (n + 1) y = some (DV.norm1 (.sl k (l.map (qe1 s))), ids.filterMap σ))/\(k = s.size\/l = [])/\∀ i ∈ ids, Ow H i := by
 unfold rowW at hK;split at hK
 ·rename_i i s' o n
  unfold winK at hK;split at hK
  ·rename_i k
   split at hK
   ·rename_i cells hi
    split at hK
    ·rename_i l hc hl
     simp only [Bool.and_eq_true] at hc;obtain ⟨⟨c1, c2⟩, c3⟩ := hc;have c1 := qb2 c1;have c2 := qg3 c2;have c3 := qg3 c3;rw [fS_eq] at hK;obtain ⟨id, ys, b1, b2, b3, _⟩ := hB i _ hi;have e := qtV b3 hl;cases h with
     | win _ _ _ _ id' b hb hi' =>
      rw [b1] at hi';cases hi';have hlen : l.length = cells.length := by rw [← b3.1, e, List.length_map]
      refine ⟨_, _, 1, hK, fun m => ?_, .inl rfl, ?_⟩
      ·simp only [qz9, b2, qkH, e, qoS]
       rw [if_pos (by rw [List.length_map]; omega)];simp only;rw [if_pos ⟨c1, by rw [List.length_map, List.length_map]; omega⟩];subst c1;simp only [if_true, List.filterMap_cons, b1, List.filterMap_nil];rw [List.map_take, List.map_drop, List.map_map];rfl
      ·intro j hj
       simp only [List.mem_singleton] at hj;subst hj;exact .inr ⟨_, hi⟩
    ·cases hK
   ·cases hK
  ·cases hK
 ·obtain ⟨l, ids, k, h3, h4, h5, _, h6⟩ := qjO hB h hK
  exact ⟨l, ids, k, h3, h4, h5, fun i hi => .inl (h6 i hi)⟩
theorem qw0 (hB : BRs σ H A) : ∀ (s : Sh) {cs : List TV} {ys : List AV} {K : El s->List Nat->List TV->Option ρ} {r : ρ}, VRs σ H cs ys->qtM H s cs K = some r →
  ∃ a ids rest y1 y2 ds, ys = y1 ++ y2/\y1.length = s.size/\VRs σ H rest y2/\K a ids rest = some r/\ds = qe1 s a/\ArgL A y1 ds (ids.filterMap σ)/\∀ i ∈ ids, Ow H i
 | .bool, cs, ys, K, r, h, hK => by
  unfold qtM at hK;split at hK
  ·obtain ⟨y, ys, rfl, h1, h2⟩ := h.cons_inv
   split at hK
   ·rename_i b hb
    cases qu7 h1 hb;exact ⟨b, [], _, [_], ys, [.bool b], rfl, rfl, h2, hK, rfl, .one (fun n => rfl), by simp⟩
   ·cases hK
  ·cases hK
 | .int k, cs, ys, K, r, h, hK => by
  unfold qtM at hK;split at hK
  ·rename_i k' n l
   obtain ⟨y, ys, rfl, h1, h2⟩ := h.cons_inv;split at hK
   ·rename_i hk _
    subst hk;cases h1.d_inv;exact ⟨n, [], _, [_], ys, [.int k' n], rfl, rfl, h2, hK, rfl, .one (fun n => rfl), by simp⟩
   ·cases hK
  ·cases hK
 | .str, cs, ys, K, r, h, hK => by
  unfold qtM at hK;split at hK
  ·obtain ⟨y, ys, rfl, h1, h2⟩ := h.cons_inv
   split at hK
   ·rename_i b hb
    cases qeL h1 hb;exact ⟨b, [], _, [_], ys, [.str b], rfl, rfl, h2, hK, rfl, .one (fun n => rfl), by simp⟩
   ·cases hK
  ·cases hK
 | .ptr _, cs, ys, K, r, h, hK => by simp [qtM] at hK
 | .slice n s, cs, ys, K, r, h, hK => by
  unfold qtM at hK;split at hK
  ·obtain ⟨y, ys, rfl, h1, h2⟩ := h.cons_inv
   split at hK
   ·rename_i hn
    have hn := qb2 hn;subst hn;obtain ⟨l, ids, k, h3, h4, h5, h6⟩ := rowW_rel hB h1 hK;refine ⟨l, ids, _, [y], ys, [DV.norm1 (.sl k (l.map (qe1 s)))], rfl, rfl, h2, h3, ?_, ?_, h6⟩
    ·simp only [qe1, List.cons.injEq, and_true]
     exact norm1_k (h5.imp id (fun h => by rw [h]; rfl))
    ·have := ArgL.cons h4 (.nil (A := A))
     simpa using this
   ·cases hK
  ·cases hK
 | .nil, cs, ys, K, r, h, hK => ⟨(), [], cs, [], ys, [], rfl, rfl, h, hK, rfl, .nil, by simp⟩
 | .cons a b, cs, ys, K, r, h, hK => by
  unfold qtM at hK;obtain ⟨x, i, r1, y1, y2, ds, rfl, l1, h1, hK, e1, g1, o1⟩ := qw0 hB a h hK;obtain ⟨x', i', r2, y3, y4, ds', rfl, l2, h2, hK, e2, g2, o2⟩ := qw0 hB b h1 hK;refine ⟨(x, x'), i ++ i', r2, y1 ++ y3, y4, ds ++ ds', by simp, by simp [l1, l2, Sh.size], h2, hK, by simp only [qe1, e1, e2], ?_, ?_⟩
  ·rw [List.filterMap_append]; exact g1.append g2
  ·intro j hj
   rcases List.mem_append.1 hj with hj | hj
   ·exact o1 j hj
   ·exact o2 j hj
theorem decAll {s : Sh} {cs : List TV} {ys : List AV} {K : El s->List Nat->Option ρ} {r : ρ} (hB : BRs σ H A) (h : VRs σ H cs ys) (hK : qtM H s cs (fun a ids rest => match rest with
  | [] => K a ids
  | _ => none) = some r) : ∃ a ids ds, K a ids = some r/\ys.length = s.size/\ds = qe1 s a/\ArgL A ys ds (ids.filterMap σ)/\∀ i ∈ ids, Ow H i := by
 obtain ⟨a, ids, rest, y1, y2, ds, rfl, h1, h2, h3, h4, h5, h6⟩ := qw0 hB s h hK;split at h3
 ·cases h2.nil_inv
  rw [List.append_nil];exact ⟨a, ids, ds, h3, h1, h4, h5, h6⟩
 ·cases h3
def Wd (d d' : DV) : Prop := ∀ F w v, Rep F w d v->Rep F w d' v
theorem Wd.of_z1 {d d' : DV} (h : z1 d = z1 d') : Wd d d' := fun _ _ _ hr => zq9 h hr
def Wds (l m : List DV) : Prop := m.length = l.length/\∀ (j : Nat) d d', l[j]? = some d->m[j]? = some d'->Wd d d'
theorem Wds.of_z1 : ∀ {l m : List DV}, l.map z1 = m.map z1->Wds l m := by
 intro l m h;have hl : l.length = m.length := by simpa using congrArg List.length h
 refine ⟨hl.symm, fun j d d' h1 h2 => Wd.of_z1 ?_⟩;have := congrArg (fun l => l[j]?) h;simpa [h1, h2] using this
theorem qtW {d d' : DV} (h : z1 d = z1 d') : d.single = d'.single := by
 have : ∀ d : DV, (z1 d).single = d.single := by
  intro d;unfold z1;split <;> rfl
 rw [← this d, h, this]
theorem qaM : ∀ (s : Sh) (x : El s), ∀ d ∈ qe1 s x, DV.single d = true
 | .bool, _, d, h => by simp [qe1] at h; subst h; rfl
 | .int _, _, d, h => by simp [qe1] at h; subst h; rfl
 | .str, _, d, h => by simp [qe1] at h; subst h; rfl
 | .ptr _, x, _, _ => nomatch x
 | .slice _ _, _, d, h => by simp [qe1] at h; subst h; exact qbR _ _
 | .nil, _, d, h => by simp [qe1] at h
 | .cons a b, x, d, h => by
  simp only [qe1, List.mem_append] at h;exact h.elim (qaM a x.1 d) (qaM b x.2 d)
theorem zh4 {l m : List DV} (h : l.map z1 = m.map z1) (hm : ∀ d ∈ m, DV.single d = true) : l.all DV.single = true := by
 rw [List.all_eq_true];intro d hd;obtain ⟨j, hj⟩ := List.getElem?_of_mem hd
 have := congrArg (fun l => l[j]?) h;simp only [List.getElem?_map, hj, Option.map_some] at this;cases hq : m[j]? with
 | none => rw [hq] at this; cases this
 | some d' =>
  rw [hq] at this;rw [qtW (Option.some.inj this)];exact hm d' (List.mem_of_getElem? hq)
theorem qa1 (h Hs : HpT) (i : Nat) : qa0 (h ++ Hs) i = (qa0 h i).or (qa0 Hs i) := by
 induction h with
 | nil => rfl
 | cons p h ih =>
  obtain ⟨k, b⟩ := p;simp only [List.cons_append, qa0, ih];cases Nat.beq k i <;> rfl
theorem zh5 (h : HpT) (i j : Nat) (b : TB) : qa0 (qeH h i b) j = if j = i/\(qa0 h i).isSome = true then some b else qa0 h j := by
 induction h with
 | nil => simp [qeH, qa0]
 | cons p h ih =>
  obtain ⟨k, c⟩ := p;simp only [qeH];cases hk : Nat.beq k i with
  | true =>
   have := qb2 hk;subst this;simp only [cond_true, qa0, hk];cases hj : Nat.beq k j with
   | true => have := qb2 hj; subst this; simp
   | false =>
    have : ¬ j = k := fun e => by subst e; rw [Nat.beq_refl] at hj; cases hj
    simp [this]
  | false =>
   simp only [cond_false, qa0, hk];cases hj : Nat.beq k j with
   | true =>
    have := qb2 hj;subst this;have : ¬ k = i := fun e => by subst e; rw [Nat.beq_refl] at hk; cases hk
    simp [this]
   | false => simpa using ih
theorem qoT : ∀ {h h' : HpT} {i : Nat}, frz1 h i = some h'->(∃ s l w, qa0 h i = some (.row s l w)/\qa0 h' i = some (.row s l false))/\∀ j, j ≠ i->qa0 h' j = qa0 h j
 | [], h', i, hf => by cases hf
 | (k, b) :: h, h', i, hf => by
  unfold frz1 at hf;split at hf
  ·rename_i hk
   have := qb2 hk;subst this;split at hf
   ·cases hf
    refine ⟨⟨_, _, _, by simp only [qa0, hk]; rfl, by simp only [qa0, hk]; rfl⟩, fun j hj => ?_⟩
    have : Nat.beq k j = false := by
     cases hq : Nat.beq k j with
     | false => rfl
     | true => exact absurd (qb2 hq).symm hj
    simp only [qa0, this, cond_false]
   ·cases hf
  ·rename_i hk
   split at hf
   ·rename_i l hl
    cases hf;obtain ⟨⟨s, m, w, h1, h2⟩, h3⟩ := qoT hl;refine ⟨⟨s, m, w, by simp only [qa0, hk]; exact h1, by simp only [qa0, hk]; exact h2⟩, fun j hj => ?_⟩;simp only [qa0];cases Nat.beq k j
    ·exact h3 j hj
    ·rfl
   ·cases hf
theorem qfT : ∀ {ids : List Nat} {h h' : HpT}, frz ids h = some h'->(∀ i ∈ ids, ∃ s l w, qa0 h i = some (.row s l w)/\qa0 h' i = some (.row s l false))/\∀ j, j ∉ ids->qa0 h' j = qa0 h j
 | [], h, h', hf => by cases hf; simp
 | i :: ids, h, h', hf => by
  unfold frz at hf;split at hf
  ·rename_i h1 hf1
   obtain ⟨⟨s, l, w, e1, e2⟩, e3⟩ := qoT hf1;obtain ⟨g1, g2⟩ := qfT hf;refine ⟨fun j hj => ?_, fun j hj => ?_⟩
   ·by_cases hji : j = i
    ·subst hji
     by_cases hm : j ∈ ids
     ·obtain ⟨s', l', w', f1, f2⟩ := g1 j hm
      rw [e2] at f1;cases f1;exact ⟨_, _, _, e1, f2⟩
     ·exact ⟨s, l, w, e1, (g2 j hm).trans e2⟩
    ·have hm : j ∈ ids := by simpa [hji] using hj
     obtain ⟨s', l', w', f1, f2⟩ := g1 j hm;exact ⟨s', l', w', (e3 j hji).symm.trans f1, f2⟩
   ·simp only [List.mem_cons, not_or] at hj
    rw [g2 j hj.2, e3 j hj.1]
  ·cases hf
def Fz (H H' : HpT) (i : Nat) : Prop := (∃ s l w, qa0 H i = some (.row s l w)/\qa0 H' i = some (.row s l false))\/∃ cells, qa0 H i = some (.box cells)/\cells.all isD = true/\cells.length<=90/\qa0 H' i = some .dead
theorem qlP : ∀ {h h' : HpT} {i : Nat}, frzB1 h i = some h'->Fz h h' i/\∀ j, j ≠ i->qa0 h' j = qa0 h j
 | [], h', i, hf => by cases hf
 | (k, b) :: h, h', i, hf => by
  have other : ∀ {b' : TB} {j : Nat}, j ≠ k->qa0 ((k, b') :: h) j = qa0 ((k, b) :: h) j := by
   intro b' j hj
   have : Nat.beq k j = false := by
    cases hq : Nat.beq k j with
    | false => rfl
    | true => exact absurd (qb2 hq).symm hj
   simp only [qa0, this, cond_false]
  unfold frzB1 at hf;split at hf
  ·rename_i hk
   have := qb2 hk;subst this;split at hf
   ·cases hf
    exact ⟨.inl ⟨_, _, _, by simp only [qa0, hk]; rfl, by simp only [qa0, hk]; rfl⟩, fun j hj => other hj⟩
   ·split at hf
    ·rename_i hc
     simp only [Bool.and_eq_true] at hc;cases hf;exact ⟨.inr ⟨_, by simp only [qa0, hk]; rfl, hc.1, qg3 hc.2, by simp only [qa0, hk]; rfl⟩, fun j hj => other hj⟩
    ·cases hf
   ·cases hf
  ·rename_i hk
   split at hf
   ·rename_i l hl
    cases hf;obtain ⟨h0, h3⟩ := qlP hl;refine ⟨?_, fun j hj => ?_⟩
    ·rcases h0 with ⟨s, m, w, h1, h2⟩ | ⟨cells, h1, h2, h4, h5⟩
     ·exact .inl ⟨s, m, w, by simp only [qa0, hk]; exact h1, by simp only [qa0, hk]; exact h2⟩
     ·exact .inr ⟨cells, by simp only [qa0, hk]; exact h1, h2, h4, by simp only [qa0, hk]; exact h5⟩
    ·simp only [qa0]
     cases Nat.beq k j
     ·exact h3 j hj
     ·rfl
   ·cases hf
theorem qoU : ∀ {ids : List Nat} {h h' : HpT}, frzB ids h = some h'->(∀ i ∈ ids, Fz h h' i)/\∀ j, j ∉ ids->qa0 h' j = qa0 h j
 | [], h, h', hf => by cases hf; simp
 | i :: ids, h, h', hf => by
  unfold frzB at hf;split at hf
  ·rename_i h1 hf1
   obtain ⟨e0, e3⟩ := qlP hf1;obtain ⟨g1, g2⟩ := qoU hf;refine ⟨fun j hj => ?_, fun j hj => ?_⟩
   ·by_cases hji : j = i
    ·subst hji
     by_cases hm : j ∈ ids
     ·rcases e0 with ⟨s, l, w, e1, e2⟩ | ⟨cells, e1, e4, e5, e2⟩
      ·rcases g1 j hm with ⟨s', l', w', f1, f2⟩ | ⟨cells', f1, f2, f3, f4⟩
       ·rw [e2] at f1
        cases f1;exact .inl ⟨_, _, _, e1, f2⟩
       ·rw [e2] at f1; cases f1
      ·rcases g1 j hm with ⟨s', l', w', f1, f2⟩ | ⟨cells', f1, f2, f3, f4⟩
       ·rw [e2] at f1; cases f1
       ·rw [e2] at f1; cases f1
     ·rcases e0 with ⟨s, l, w, e1, e2⟩ | ⟨cells, e1, e4, e5, e2⟩
      ·exact .inl ⟨s, l, w, e1, (g2 j hm).trans e2⟩
      ·exact .inr ⟨cells, e1, e4, e5, (g2 j hm).trans e2⟩
    ·have hm : j ∈ ids := by simpa [hji] using hj
     rcases g1 j hm with ⟨s', l', w', f1, f2⟩ | ⟨cells', f1, f2, f3, f4⟩
     ·exact .inl ⟨s', l', w', (e3 j hji).symm.trans f1, f2⟩
     ·exact .inr ⟨cells', (e3 j hji).symm.trans f1, f2, f3, f4⟩
   ·simp only [List.mem_cons, not_or] at hj
    rw [g2 j hj.2, e3 j hj.1]
  ·cases hf
end
def lst : Id->Nat
 | [] => 0
 | [a] => a
 | _ :: b :: l => lst (b :: l)
def Cp : TB->TB->Prop
 | .row s l _, .row s' l' _ => s' = s/\l'.length = l.length
 | .row _ _ _, .dead => True
 | .dead, .dead => True
 | .box _, .box _ => True
 | .box _, .dead => True
 | .fns _ _, .fns _ _ => True
 | .fns _ _, .dead => True
 | _, _ => False
theorem Cp.refl (b : TB) : Cp b b := by cases b <;> simp [Cp]
theorem Cp.trans {a b c : TB} (h : Cp a b) (h' : Cp b c) : Cp a c := by
 cases a <;> cases b <;> cases c <;> simp_all [Cp]
def Gos (σ : Nat->Option Id) (H : HpT) (σ' : Nat->Option Id) (H' : HpT) : Prop := ∀ i b, qa0 H i = some b->σ' i = σ i/\∃ b', qa0 H' i = some b'/\Cp b b'
section
variable {σ σ' σ'' : Nat->Option Id} {H H' H'' : HpT} {ρ : Type} {A A' A1 A2 : Hp} {c c' : Nat}
theorem Gos.refl (σ : Nat->Option Id) (H : HpT) : Gos σ H σ H := fun _ b h => ⟨rfl, b, h, Cp.refl b⟩
theorem Gos.trans (h : Gos σ H σ' H') (h' : Gos σ' H' σ'' H'') : Gos σ H σ'' H'' := by
 intro i b hb;obtain ⟨e, b', h1, h2⟩ := h i b hb;obtain ⟨e', b'', h3, h4⟩ := h' i b' h1;exact ⟨e'.trans e, b'', h3, h2.trans h4⟩
theorem VR.mono {x : TV} {y : AV} (h : VR σ H x y) (g : Gos σ H σ' H') : VR σ' H' x y := by
 have rowlike : ∀ {i : Nat} {s : Sh} {l : List (El s)} {w : Bool}, qa0 H i = some (.row s l w)->(∃ (l' : List (El s)) (w' : Bool), qa0 H' i = some (.row s l' w')/\l'.length = l.length)\/qa0 H' i = some .dead := by
  intro i s l w hi;obtain ⟨_, b', h1, h2⟩ := g i _ hi;cases b' with
  | row s' l' w' =>
   obtain ⟨rfl, h3⟩ := h2;exact .inl ⟨l', w', h1, h3⟩
  | dead => exact .inr h1
  | box => exact h2.elim
  | fns => exact h2.elim
 have deadlike : ∀ {i : Nat}, qa0 H i = some .dead->qa0 H' i = some .dead := by
  intro i hi;obtain ⟨_, b', h1, h2⟩ := g i _ hi;cases b' with
  | dead => exact h1
  | row => exact h2.elim
  | box => exact h2.elim
  | fns => exact h2.elim
 induction h with
 | lit b => exact .lit b
 | d x h => exact .d x h
 | nil k => exact .nil k
 | sl s l k hf hk => exact .sl s l k hf hk
 | sln s k hf => exact .sln s k hf
 | own i id s l w h hi =>
  have e := (g i _ h).1;rcases rowlike h with ⟨l', w', h1, h2⟩ | h1
  ·have := VR.own i id s l' w' h1 (e.trans hi)
   rwa [h2] at this
  ·exact .ownD _ _ _ _ _ h1
 | ownN i s l w k h hi hl =>
  have e := (g i _ h).1;rcases rowlike h with ⟨l', w', h1, h2⟩ | h1
  ·refine .ownN i s l' w' k h1 (e.trans hi) (List.eq_nil_of_length_eq_zero ?_)
   rw [h2, hl]; rfl
  ·exact .ownDN _ _ h1
 | ownD i id k o n h => exact .ownD _ _ _ _ _ (deadlike h)
 | ownDN i k h => exact .ownDN _ _ (deadlike h)
 | row i o n id s l w h hi ho =>
  have e := (g i _ h).1;rcases rowlike h with ⟨l', w', h1, h2⟩ | h1
  ·exact .row i o n id s l' w' h1 (e.trans hi) (by omega)
  ·exact .rowD _ _ _ _ _ _ _ h1
 | rowN i s l w k h hi hl =>
  have e := (g i _ h).1;rcases rowlike h with ⟨l', w', h1, h2⟩ | h1
  ·refine .rowN i s l' w' k h1 (e.trans hi) (List.eq_nil_of_length_eq_zero ?_)
   rw [h2, hl]; rfl
  ·exact .rowDN _ _ _ _ h1
 | rowD i o n id k o' n' h => exact .rowD _ _ _ _ _ _ _ (deadlike h)
 | rowDN i o n k h => exact .rowDN _ _ _ _ (deadlike h)
 | agg l ys hl _ ih => exact .agg l ys hl ih
 | aggv l ds hl _ ih => exact .aggv l ds hl ih
 | tup l ys hl _ ih => exact .tup l ys hl ih
 | tupv l ds hl _ ih => exact .tupv l ds hl ih
 | box i o id b h hi =>
  obtain ⟨e, b', h1, _⟩ := g i _ h;exact .box i o id b' h1 (e.trans hi)
 | elt i j o id b h hi =>
  obtain ⟨e, b', h1, _⟩ := g i _ h;exact .elt i j o id b' h1 (e.trans hi)
 | eltD i j o id h => exact .eltD _ _ _ _ (deadlike h)
 | win i s o n id b h hi =>
  obtain ⟨e, b', h1, _⟩ := g i _ h;exact .win i s o n id b' h1 (e.trans hi)
 | pt s x o hf => exact .pt s x o hf
 | clo f l ys hl _ ih => exact .clo f l ys hl ih
 | clov f l ds hl _ ih => exact .clov f l ds hl ih
 | undef => exact .undef
 | undefM x => exact .undefM x
 | junk y => exact .junk y
theorem VRs.mono {l : List TV} {ys : List AV} (h : VRs σ H l ys) (g : Gos σ H σ' H') : VRs σ' H' l ys := ⟨h.1, fun j x y h1 h2 => (h.2 j x y h1 h2).mono g⟩
theorem VRm.mono {x : TV} {y : AV} (h : VRm σ H x y) (g : Gos σ H σ' H') : VRm σ' H' x y := h.imp (fun h => h.mono g) fun ⟨z, e, h, hu⟩ => ⟨z, e, h.mono g, hu⟩
theorem BR.mono {i : Nat} {b : TB} (h : BR σ H A i b) (g : Gos σ H σ' H') (hi : σ' i = σ i) (hA : ∀ id, σ i = some id->A' id = A id) : BR σ' H' A' i b := by
 cases b with
 | box cells =>
  obtain ⟨id, ys, h1, h2, h3, h4⟩ := h;exact ⟨id, ys, hi.trans h1, (hA id h1).trans h2, h3.mono g, h4⟩
 | row s l w =>
  cases w with
  | true =>
   refine ⟨h.1, h.2.imp (fun ⟨id, h1, h2⟩ => ⟨id, hi.trans h1, (hA id h1).trans h2⟩) (fun ⟨h1, h2⟩ => ⟨hi.trans h1, h2⟩)⟩
  | false =>
   refine ⟨h.1, h.2.imp (fun ⟨id, h1, h2⟩ => ⟨id, hi.trans h1, (hA id h1).trans h2⟩) (fun ⟨h1, h2⟩ => ⟨hi.trans h1, h2⟩)⟩
 | fns s l =>
  obtain ⟨id, ys, h1, h2, h3, h4⟩ := h;exact ⟨id, ys, hi.trans h1, (hA id h1).trans h2, h3, fun j x y q1 q2 => (h4 j x y q1 q2).mono g⟩
 | dead => trivial
def qoV (H : HpT) (i : Nat) : Prop := ∃ b, qa0 H i = some b/\b ≠ .dead
structure SH (σ : Nat->Option Id) (H : HpT) (c : Nat) (A : Hp) : Prop where
 blk : BRs σ H A
 inj : ∀ i j id, qoV H i->qoV H j->σ i = some id->σ j = some id->i = j
 cnt : ∀ i b, qa0 H i = some b->i < c
 fresh : ∃ N, (∀ id, N<=lst id->A id = none)/\∀ i b id, qa0 H i = some b->σ i = some id->lst id < N
theorem SH.new1 (h : SH σ H c A) : ∃ N, A [N] = none/\∀ i b, qa0 H i = some b->σ i ≠ some [N] := by
 obtain ⟨N, h1, h2⟩ := h.fresh;refine ⟨N, h1 [N] (Nat.le_refl _), fun i b hb e => ?_⟩;have := h2 i b _ hb e;simp [lst] at this
theorem SH.new (h : SH σ H c A) : ∃ id, A id = none/\∀ i b, qa0 H i = some b->σ i ≠ some id := by
 obtain ⟨N, h⟩ := h.new1;exact ⟨_, h⟩
theorem SH.news (h : SH σ H c A) : ∃ ns : Id, ns ≠ []/\∀ d : Nat, A (d :: ns) = none/\∀ i b, qa0 H i = some b->σ i ≠ some (d :: ns) := by
 obtain ⟨N, h1, h2⟩ := h.fresh;refine ⟨[N], by simp, fun d => ⟨h1 [d, N] (Nat.le_refl _), fun i b hb e => ?_⟩⟩;have := h2 i b _ hb e;simp [lst] at this
def upS (σ : Nat->Option Id) (i : Nat) (id : Option Id) : Nat->Option Id := fun j => if j = i then id else σ j
theorem qc2 (i : Nat) (b : TB) (H : HpT) (j : Nat) : qa0 ((i, b) :: H) j = if j = i then some b else qa0 H j := by
 simp only [qa0];cases hk : Nat.beq i j with
 | true => have := qb2 hk; subst this; simp
 | false =>
  have : ¬ j = i := fun e => by subst e; rw [Nat.beq_refl] at hk; cases hk
  simp [this]
theorem Gos.new (h : SH σ H c A) {id : Option Id} {b : TB} : Gos σ H (upS σ c id) ((c, b) :: H) := by
 intro i b' hb;have := h.cnt i b' hb;refine ⟨by simp only [upS]; rw [if_neg (by omega)], b', by rw [qc2, if_neg (by omega)]; exact hb, Cp.refl b'⟩
theorem SH.congr (h : SH σ H c A) (he : ∀ j, qa0 H' j = qa0 H j) : SH σ H' c A := by
 have g : Gos σ H σ H' := fun i b hb => ⟨rfl, b, (he i).trans hb, Cp.refl b⟩
 have live : ∀ {i}, qoV H' i->qoV H i := fun ⟨b, h1, h2⟩ => ⟨b, (he _).symm.trans h1, h2⟩
 refine ⟨fun i b hb => (h.blk i b ((he i).symm.trans hb)).mono g rfl (fun _ _ => rfl), fun i j id hi hj => h.inj i j id (live hi) (live hj), fun i b hb => h.cnt i b ((he i).symm.trans hb), ?_⟩;obtain ⟨N, h1, h2⟩ := h.fresh;exact ⟨N, h1, fun i b id hb => h2 i b id ((he i).symm.trans hb)⟩
theorem SH.alloc (h : SH σ H c A) {id : Id} (hid : A id = none) (hs : ∀ i b, qa0 H i = some b->σ i ≠ some id) {b : TB} {x : Blk} (hb : BR (upS σ c (some id)) ((c, b) :: H) (upd A id (some x)) c b) : SH (upS σ c (some id)) ((c, b) :: H) (c + 1) (upd A id (some x)) := by
 have hreal : ∀ {i b' id'}, qa0 H i = some b'->b' ≠ .dead->σ i = some id'->id' ≠ id := fun hi _ hs' e => hs _ _ hi (e ▸ hs')
 refine ⟨fun i b' hi => ?_, fun i j id' hi hj e1 e2 => ?_, fun i b' hi => ?_, ?_⟩
 ·rw [qc2] at hi
  split at hi
  ·rename_i e; cases hi; subst e; exact hb
  ·rename_i e
   refine (h.blk i b' hi).mono (Gos.new h) (by simp only [upS]; rw [if_neg e]) (fun id' h' => ?_);by_cases hd : b' = .dead
   ·simp only [upd]
    split
    ·rename_i e'; subst e'; exact absurd h' (hs _ _ hi)
    ·rfl
   ·simp only [upd]
    rw [if_neg (hreal hi hd h')]
 ·obtain ⟨b1, h1, d1⟩ := hi
  obtain ⟨b2, h2, d2⟩ := hj;rw [qc2] at h1 h2;simp only [upS] at e1 e2;by_cases c1 : i = c
  ·by_cases c2 : j = c
   ·rw [c1, c2]
   ·rw [if_pos c1] at e1
    rw [if_neg c2] at e2 h2;cases e1;exact absurd e2 (hs _ _ h2)
  ·by_cases c2 : j = c
   ·rw [if_pos c2] at e2
    rw [if_neg c1] at e1 h1;cases e2;exact absurd e1 (hs _ _ h1)
   ·rw [if_neg c1] at e1 h1
    rw [if_neg c2] at e2 h2;exact h.inj i j id' ⟨b1, h1, d1⟩ ⟨b2, h2, d2⟩ e1 e2
 ·rw [qc2] at hi
  split at hi
  ·omega
  ·have := h.cnt i b' hi; omega
 ·obtain ⟨N, h1, h2⟩ := h.fresh
  refine ⟨max N (lst id + 1), fun id' hid' => ?_, fun i b' id' hi hs' => ?_⟩
  ·simp only [upd]
   rw [if_neg (fun e => by subst e; omega)];exact h1 id' (by omega)
  ·rw [qc2] at hi
   simp only [upS] at hs';split at hi
   ·rename_i e
    rw [if_pos e] at hs';cases hs';omega
   ·rename_i e
    rw [if_neg e] at hs';have := h2 i b' id' hi hs';omega
theorem SH.put (h : SH σ H c A) {i : Nat} {b b' : TB} {id : Id} {x : Blk} (hi : qa0 H i = some b) (hd : b ≠ .dead) (hs : σ i = some id) (hA : A id ≠ none) (hl : ∀ j, qa0 H' j = if j = i then some b' else qa0 H j) (hc : Cp b b')
  (hb : Gos σ H σ H'->BR σ H' (upd A id (some x)) i b') : Gos σ H σ H'/\SH σ H' c (upd A id (some x)) := by
 have g : Gos σ H σ H' := by
  intro j b1 h1;refine ⟨rfl, ?_⟩;rw [hl];split
  ·rename_i e; subst e; rw [hi] at h1; cases h1; exact ⟨_, rfl, hc⟩
  ·exact ⟨b1, h1, Cp.refl _⟩
 refine ⟨g, ⟨fun j b1 h1 => ?_, fun j k id' h1 h2 e1 e2 => ?_, fun j b1 h1 => ?_, ?_⟩⟩
 ·rw [hl] at h1
  split at h1
  ·rename_i e; cases h1; subst e; exact hb g
  ·rename_i e
   by_cases hd1 : b1 = .dead
   ·subst hd1; trivial
   ·refine (h.blk j b1 h1).mono g rfl (fun id' h' => ?_)
    simp only [upd];rw [if_neg (fun e' => e (by subst e'; exact h.inj j i _ ⟨b1, h1, hd1⟩ ⟨b, hi, hd⟩ h' hs))]
 ·have live : ∀ {j}, qoV H' j->qoV H j := by
   rintro j ⟨b1, h1, h2⟩;rw [hl] at h1;split at h1
   ·rename_i e; subst e; exact ⟨b, hi, hd⟩
   ·exact ⟨b1, h1, h2⟩
  exact h.inj j k id' (live h1) (live h2) e1 e2
 ·rw [hl] at h1
  split at h1
  ·rename_i e; subst e; exact h.cnt j b hi
  ·exact h.cnt j b1 h1
 ·obtain ⟨N, h1, h2⟩ := h.fresh
  refine ⟨N, fun id' hid' => ?_, fun j b1 id' h3 h4 => ?_⟩
  ·simp only [upd]
   split
   ·rename_i e; subst e; exact absurd (h1 _ hid') hA
   ·exact h1 id' hid'
  ·rw [hl] at h3
   split at h3
   ·rename_i e; subst e; exact h2 j b id' hi h4
   ·exact h2 j b1 id' h3 h4
theorem SH.kill (h : SH σ H c A) {i : Nat} {s : Sh} {l : List (El s)} {w : Bool} (hi : qa0 H i = some (.row s l w)) (hl : ∀ j, qa0 H' j = if j = i then some .dead else qa0 H j) (hA' : ∀ id, σ i ≠ some id->A' id = A id) (hN : ∀ id, A id = none->A' id = none) :
  Gos σ H σ H'/\SH σ H' c A' := by
 have g : Gos σ H σ H' := by
  intro j b1 h1;refine ⟨rfl, ?_⟩;rw [hl];split
  ·rename_i e; subst e; rw [hi] at h1; cases h1; exact ⟨_, rfl, trivial⟩
  ·exact ⟨b1, h1, Cp.refl _⟩
 refine ⟨g, ⟨fun j b1 h1 => ?_, fun j k id' h1 h2 e1 e2 => ?_, fun j b1 h1 => ?_, ?_⟩⟩
 ·rw [hl] at h1
  split at h1
  ·cases h1; trivial
  ·rename_i e
   by_cases hd1 : b1 = .dead
   ·subst hd1; trivial
   ·exact (h.blk j b1 h1).mono g rfl (fun id' h' => hA' id' (fun e' => e (h.inj j i id' ⟨b1, h1, hd1⟩ ⟨_, hi, by simp⟩ h' e')))
 ·have live : ∀ {j}, qoV H' j->qoV H j := by
   rintro j ⟨b1, h1, h2⟩;rw [hl] at h1;split at h1
   ·cases h1; exact absurd rfl h2
   ·exact ⟨b1, h1, h2⟩
  exact h.inj j k id' (live h1) (live h2) e1 e2
 ·rw [hl] at h1
  split at h1
  ·rename_i e; subst e; exact h.cnt j _ hi
  ·exact h.cnt j b1 h1
 ·obtain ⟨N, h1, h2⟩ := h.fresh
  refine ⟨N, fun id' hid' => hN id' (h1 id' hid'), fun j b1 id' h3 h4 => ?_⟩;rw [hl] at h3;split at h3
  ·rename_i e; subst e; exact h2 j _ id' hi h4
  ·exact h2 j b1 id' h3 h4
theorem qtX : ∀ {l : List TV} {ys : List AV}, VRs σ H l ys->l.all isD = true->∃ ds : List DV, ys = ds.map AV.val
 | [], ys, h, _ => by cases h.nil_inv; exact ⟨[], rfl⟩
 | x :: l, ys, h, hd => by
  obtain ⟨y, ys, rfl, h1, h2⟩ := h.cons_inv;simp only [List.all_cons, Bool.and_eq_true] at hd;obtain ⟨ds, rfl⟩ := qtX h2 hd.2;cases x <;> first | (cases h1.d_inv; exact ⟨_ :: ds, rfl⟩) | (simp [isD] at hd; done)
theorem qlQ {A : Hp} : ∀ (ds : List DV) (k : Nat), ds.length < k->qf5 A k (ds.map .val) = some (ds.map DV.norm, [])
 | [], k, h => by
  cases k with
  | zero => omega
  | succ k => rfl
 | d :: ds, k, h => by
  cases k with
  | zero => omega
  | succ k =>
   simp only [List.length_cons] at h;cases k with
   | zero => omega
   | succ k =>
    simp only [List.map_cons, qf5, qqT, qlQ ds (k + 1) (by omega)];rfl
theorem SH.fix (h : SH σ H c A) {ids : List Nat} (hids : ∀ i ∈ ids, Fz H H' i) (hl : ∀ j, j ∉ ids->qa0 H' j = qa0 H j) :
  ∃ A', Go.AI.fix A (ids.filterMap σ) = some A'/\Gos σ H σ H'/\SH σ H' c A'/\(∀ id, A id = none->A' id = none)/\∀ j id, j ∉ ids->qoV H j->σ j = some id->A' id = A id := by
 have g : Gos σ H σ H' := by
  intro j b1 h1;refine ⟨rfl, ?_⟩;by_cases hj : j ∈ ids
  ·rcases hids j hj with ⟨s, l, w, e1, e2⟩ | ⟨cells, e1, _, _, e2⟩
   ·rw [e1] at h1
    cases h1;exact ⟨_, e2, rfl, rfl⟩
   ·rw [e1] at h1
    cases h1;exact ⟨_, e2, trivial⟩
  ·exact ⟨b1, by rw [hl j hj]; exact h1, Cp.refl _⟩
 have liveF : ∀ {i}, i ∈ ids->qoV H i := by
  intro i hi;rcases hids i hi with ⟨s, l, w, e1, e2⟩ | ⟨cells, e1, _, _, e2⟩
  ·exact ⟨_, e1, by simp⟩
  ·exact ⟨_, e1, by simp⟩
 have real : ∀ id ∈ ids.filterMap σ, (∃ s l, A id = some (.row s l))\/(∃ s l, A id = some (.frow s l))\/∃ ds : List DV, A id = some (.box (ds.map .val))/\ds.length<=90 := by
  intro id hid;obtain ⟨i, hi, e⟩ := List.mem_filterMap.1 hid;rcases hids i hi with ⟨s, l, w, e1, e2⟩ | ⟨cells, e1, e3, e4, e2⟩
  ·have := h.blk i _ e1
   cases w with
   | true =>
    rcases this.2 with ⟨id', q1, q2⟩ | ⟨q1, _⟩
    ·rw [e] at q1; cases q1; exact .inl ⟨_, _, q2⟩
    ·rw [e] at q1; cases q1
   | false =>
    rcases this.2 with ⟨id', q1, q2⟩ | ⟨q1, _⟩
    ·rw [e] at q1; cases q1; exact .inr (.inl ⟨_, _, q2⟩)
    ·rw [e] at q1; cases q1
  ·obtain ⟨id', ys, q1, q2, q3, _⟩ := h.blk i _ e1
   rw [e] at q1;cases q1;obtain ⟨ds, rfl⟩ := qtX q3 e3;exact .inr (.inr ⟨ds, q2, by have := q3.1; rw [List.length_map] at this; omega⟩)
 have other : ∀ {j id}, j ∉ ids->qoV H j->σ j = some id->id ∉ ids.filterMap σ := by
  intro j id hj hlj hs hm;obtain ⟨i, hi, e⟩ := List.mem_filterMap.1 hm;exact hj (h.inj j i id hlj (liveF hi) hs e ▸ hi)
 have hf : ∃ A', Go.AI.fix A (ids.filterMap σ) = some A'/\∀ id, A' id = if id ∈ ids.filterMap σ then qsL A (A id) else A id := by
  generalize hq : ids.filterMap σ = q at real other;cases q with
  | nil => exact ⟨A, rfl, by simp⟩
  | cons id0 q =>
   refine ⟨fun i => if (id0 :: q).contains i then qsL A (A i) else A i, ?_, ?_⟩
   ·simp only [Go.AI.fix]
    rw [if_pos];rw [List.all_eq_true];intro id hid;rcases real id hid with ⟨_, _, e⟩ | ⟨_, _, e⟩ | ⟨ds, e, hd⟩
    ·simp [qdX, e]
    ·simp [qdX, e]
    ·simp only [qdX, e, qlQ ds 99 (by omega)]
     rfl
   ·intro id
    by_cases hm : id ∈ id0 :: q
    ·rw [if_pos hm]; simp only; rw [if_pos (by simpa using hm)]
    ·rw [if_neg hm]; simp only; rw [if_neg (by simpa using hm)]
 obtain ⟨A', hA, hA'⟩ := hf
 have hnone : ∀ id, A id = none->A' id = none := by
  intro id hid;rw [hA'];split
  ·rename_i hm
   rcases real id hm with ⟨_, _, e⟩ | ⟨_, _, e⟩ | ⟨ds, e, hd⟩ <;> rw [hid] at e <;> cases e
  ·exact hid
 have hsame : ∀ j id, j ∉ ids->qoV H j->σ j = some id->A' id = A id := by
  intro j id hj hlj hs;rw [hA', if_neg (other hj hlj hs)]
 refine ⟨A', hA, g, ⟨fun j b1 h1 => ?_, fun j k id' h1 h2 e1 e2 => ?_, fun j b1 h1 => ?_, ?_⟩, hnone, hsame⟩
 ·by_cases hj : j ∈ ids
  ·rcases hids j hj with ⟨s, l, w, e1, e2⟩ | ⟨cells, e1, _, _, e2⟩
   ·rw [e2] at h1
    cases h1;have := h.blk j _ e1;refine ⟨this.fine, ?_⟩
    have hfx : ∀ id, σ j = some id->A' id = qsL A (A id) := by
     intro id e;rw [hA', if_pos (List.mem_filterMap.2 ⟨j, hj, e⟩)]
    cases w with
    | true => exact this.2.imp (fun ⟨id, q1, q2⟩ => ⟨id, q1, by rw [hfx id q1, q2]; rfl⟩) (fun h => h)
    | false => exact this.2.imp (fun ⟨id, q1, q2⟩ => ⟨id, q1, by rw [hfx id q1, q2]; rfl⟩) (fun h => h)
   ·rw [e2] at h1
    cases h1;trivial
  ·have h2 := h1
   rw [hl j hj] at h2;by_cases hd1 : b1 = .dead
   ·subst hd1; trivial
   ·exact (h.blk j b1 h2).mono g rfl (fun id' h' => hsame j id' hj ⟨b1, h2, hd1⟩ h')
 ·have live : ∀ {j}, qoV H' j->qoV H j := by
   rintro j ⟨b1, h1, h2⟩;by_cases hj : j ∈ ids
   ·exact liveF hj
   ·exact ⟨b1, by rw [← hl j hj]; exact h1, h2⟩
  exact h.inj j k id' (live h1) (live h2) e1 e2
 ·by_cases hj : j ∈ ids
  ·obtain ⟨b, e1, _⟩ := liveF hj
   exact h.cnt j _ e1
  ·exact h.cnt j b1 (by rw [← hl j hj]; exact h1)
 ·obtain ⟨N, h1, h2⟩ := h.fresh
  refine ⟨N, fun id' hid' => hnone id' (h1 id' hid'), fun j b1 id' h3 h4 => ?_⟩;by_cases hj : j ∈ ids
  ·obtain ⟨b, e1, _⟩ := liveF hj
   exact h2 j _ id' e1 h4
  ·exact h2 j b1 id' (by rw [← hl j hj]; exact h3) h4
end
def zA : DV->DV
 | .agg l => .agg (l.map z1)
 | d => z1 d
theorem qoW {F : Nat->Prop} {w : World} {d d' : DV} {v : Value} (h : zA d = zA d') (hr : Rep F w d v) : Rep F w d' v := by
 by_cases ha : ∃ l, d = .agg l
 ·obtain ⟨l, rfl⟩ := ha
  cases d' with
  | agg m =>
   simp only [zA, DV.agg.injEq] at h;cases hr with
   | agg _ vs hl hv =>
    have hlen : l.length = m.length := by simpa using congrArg List.length h
    refine .agg m vs (by rw [hl, hlen]) (fun j d v h1 h2 => ?_);have hj : j < l.length := by rw [hlen]; exact (List.getElem?_eq_some_iff.1 h1).1
    have h3 := congrArg (fun l => l[j]?) h;simp only [List.getElem?_map, h1, List.getElem?_eq_getElem hj, Option.map_some, Option.some.injEq] at h3;exact zq9 h3 (hv j _ v (List.getElem?_eq_getElem hj) h2)
  | sl s l' => simp only [zA, z1] at h; split at h <;> cases h
  | _ => simp [zA, z1] at h
 ·have h1 : zA d = z1 d := by cases d <;> first | rfl | exact absurd ⟨_, rfl⟩ ha
  rw [h1] at h;cases d' with
  | agg m =>
   exfalso;simp only [zA] at h;unfold z1 at h;split at h
   ·cases h
   ·subst h; exact ha ⟨_, rfl⟩
  | _ => exact zq9 h hr
def qxA (s : Sh) (x : El s) : DV := match isAgg s with
 | true => .agg (qe1 s x)
 | false => (match qe1 s x with
  | [d] => d
  | _ => .nilp)
def eaL : (l : List Sh)->El (qk3 l)->List DV
 | [], _ => []
 | s :: l, x => qxA s x.1 :: eaL l x.2
def ebL : (l : List Sh)->El (qiW l)->DV
 | [], _ => .tup []
 | [r], x => qxA r x
 | a :: b :: l, x => .tup (eaL (a :: b :: l) x)
theorem qaN {s : Sh} (h : isAgg s = true) (x : El s) : qxA s x = .agg (qe1 s x) := by
 unfold qxA;rw [h]
theorem qaO {s : Sh} (h : isAgg s = false) (x : El s) : ∃ d, qe1 s x = [d]/\qxA s x = d/\d.single = true := by
 cases s with
 | bool => exact ⟨_, rfl, rfl, rfl⟩
 | int k => exact ⟨_, rfl, rfl, rfl⟩
 | str => exact ⟨_, rfl, rfl, rfl⟩
 | ptr s => exact nomatch x
 | slice n s => exact ⟨_, rfl, rfl, qbR _ _⟩
 | nil => cases h
 | cons a b => cases h
theorem qjP : ∀ (s : Sh) {x y : El s}, qe1 s x = qe1 s y->x = y
 | .bool, x, y, h => DV.bool.inj (List.cons.inj h).1
 | .int _, x, y, h => (DV.int.inj (List.cons.inj h).1).2
 | .str, x, y, h => DV.str.inj (List.cons.inj h).1
 | .ptr _, x, _, _ => nomatch x
 | .slice n s, x, y, h => by
  simp only [qe1, List.cons.injEq, and_true] at h;exact (List.map_inj_right fun _ _ h => qjP s h).1 (norm1_sl h)
 | .nil, x, y, _ => rfl
 | .cons a b, (x, x'), (y, y'), h => by
  simp only [qe1] at h;have := List.append_inj h (by rw [qk9, qk9]);rw [qjP a this.1, qjP b this.2]
theorem qaP : ∀ (s : Sh) {x y : El s}, (qe1 s x).map z1 = (qe1 s y).map z1->x = y
 | .bool, x, y, h => DV.bool.inj (List.cons.inj h).1
 | .int _, x, y, h => (DV.int.inj (List.cons.inj h).1).2
 | .str, x, y, h => DV.str.inj (List.cons.inj h).1
 | .ptr _, x, _, _ => nomatch x
 | .slice n s, x, y, h => by
  simp only [qe1, List.map_cons, List.map_nil, List.cons.injEq, and_true, qeJ] at h;exact (List.map_inj_right fun _ _ h => qjP s h).1 (z1_sl h)
 | .nil, x, y, _ => rfl
 | .cons a b, (x, x'), (y, y'), h => by
  simp only [qe1, List.map_append] at h;have := List.append_inj h (by rw [List.length_map, List.length_map, qk9, qk9]);rw [qaP a this.1, qaP b this.2]
theorem argE_inj {s : Sh} {x y : El s} (h : zA (qxA s x) = zA (qxA s y)) : x = y := by
 cases hs : isAgg s with
 | true =>
  rw [qaN hs, qaN hs] at h;simp only [zA, DV.agg.injEq] at h;exact qaP s h
 | false =>
  obtain ⟨d, h1, h2, h3⟩ := qaO hs x;obtain ⟨d', h1', h2', h3'⟩ := qaO hs y;rw [h2, h2'] at h;refine qaP s ?_
  rw [h1, h1'];have hz : ∀ d : DV, d.single = true->zA d = z1 d := by intro d hd; cases d <;> first | rfl | simp [DV.single] at hd
  rw [hz d h3, hz d' h3'] at h;simp [h]
theorem zr9 : ∀ (l : List Sh) {x y : El (qk3 l)}, (eaL l x).map zA = (eaL l y).map zA->x = y
 | [], x, y, _ => rfl
 | s :: l, (x, x'), (y, y'), h => by
  simp only [eaL, List.map_cons, List.cons.injEq] at h;rw [argE_inj h.1, zr9 l h.2]
open Classical in
noncomputable def qm3 (tc : TCn) : List DV->Option DV := fun ds =>
 if h : ∃ a, (eaL tc.args a).map zA = ds.map zA then (tc.g (Classical.choose h)).map (ebL tc.res) else none
theorem qw1 (tc : TCn) (a : El (qk3 tc.args)) {ds : List DV} (hd : ds.map zA = (eaL tc.args a).map zA) : qm3 tc ds = (tc.g a).map (ebL tc.res) := by
 have h : ∃ b, (eaL tc.args b).map zA = ds.map zA := ⟨a, hd.symm⟩;unfold qm3;rw [dif_pos h, zr9 tc.args ((Classical.choose_spec h).trans hd)]
theorem qfU : ∀ (s : Sh) (x : El s), (qe1 s x).all DV.scalar = qaJ s
 | .bool, _ => rfl
 | .int _, _ => rfl
 | .str, _ => rfl
 | .ptr _, x => nomatch x
 | .slice _ _, _ => by
  simp only [qe1, List.all_cons, List.all_nil, Bool.and_true, qlN];rfl
 | .nil, _ => rfl
 | .cons a b, x => by simp only [qe1, List.all_append, qfU a, qfU b, qaJ]
def flat1 : DV->Bool
 | .agg l => l.all DV.scalar
 | d => d.scalar
theorem qtY {s : Sh} (x : El s) : flat1 (qxA s x) = qaJ s := by
 cases hs : isAgg s with
 | true => rw [qaN hs]; exact qfU s x
 | false =>
  obtain ⟨d, h1, h2, h3⟩ := qaO hs x;rw [h2, ← qfU s x, h1];cases d <;> first | (simp [flat1, DV.scalar]; done) | simp [DV.single] at h3
theorem za5 : ∀ (l : List Sh) (x : El (qk3 l)), (eaL l x).all flat1 = qaJ (qk3 l)
 | [], _ => rfl
 | s :: l, x => by simp only [eaL, List.all_cons, qtY, za5 l, qk3, qaJ]
theorem qjQ : ∀ (l : List Sh) (x : El (qiW l)), (ebL l x).flat = qaJ (qiW l)
 | [], _ => rfl
 | [r], x => by
  have := qtY (s := r) x;simp only [ebL, qiW];rw [← this];cases hs : isAgg r with
  | true => rw [show qxA r x = .agg (qe1 r x) from qaN hs x]; rfl
  | false =>
   obtain ⟨d, h1, h2, h3⟩ := qaO (s := r) hs x;rw [show qxA r x = d from h2];cases d <;> first | rfl | simp [DV.single] at h3
 | a :: b :: l, x => by
  have := za5 (a :: b :: l) x;simp only [ebL, qiW];rw [← this];show List.all _ _ = _
  congr 1
noncomputable def qnR (tc : TCn) : Id->List AV->Hp->Option (AV × Hp) := fun _ avs H => match avs with
 | .box b 0 :: rest => (match H b with
  | some (.box cells) => (match qf5 H 99 (.agg cells :: rest) with
   | some (ds, ids) => (match fix H ids, (qm3 tc ds).map fun r => (AV.val r).cells with
    | some H1, some (some ys) => if (ids.contains b || qhY H ids || !(Nat.beq ys.length cells.length) || !(ys.all AV.single)) = true then none else some (.val (.tup []), upd H1 b (some (.box ys)))
    | _, _ => none)
   | none => none)
  | _ => none)
 | _ => none
def qsD (fl : Bool) (X : Cx) (C : FuncId->Con) : Prop := (∀ f tc, X.ct f = some tc->(∀ r ∈ tc.res, r.fine = true)/\∀ (H H' : Hp) id args a ds ids v, qf5 H 99 args = some (ds, ids)->ds.map zA = (eaL tc.args a).map zA->tc.g a = some v->(fl = true->qaJ (qiW tc.res) = true\/ids = []\/X.sq f = true) →
 (fl = true->∀ i ∈ (if qaJ (qiW tc.res) = true then [] else ids), qnO H i = true)->fix H (if qaJ (qiW tc.res) = true then [] else ids) = some H'->qt8 C H id f args = some (.val (ebL tc.res v), H'))/\(∀ f k sh, X.ct f = none->X.lb f = some (k, sh)->C f = .shared (qc7 k))/\(fl = false->∀ f tc, X.ct f = none->X.lb f = none->X.mt f = some tc->(∀ r ∈ tc.res, r.fine = true)/\C f = .shared (qnR tc))
section
variable {σ : Nat->Option Id} {H : HpT} {ρ : Type} {A : Hp}
theorem za6 {s : Sh} (hf : s.fine = true) {x : El s} {K : TV->Option ρ} {r : ρ} (hK : oneK s x K = some r) : ∃ t, VR σ H t (.val (qxA s x))/\K t = some r := by
 unfold oneK at hK;obtain ⟨y, t, h1, h2, h3⟩ := qfR (qcT (σ := σ) (H := H) s x hf) hK;refine ⟨t, ?_, h3⟩;cases hs : isAgg s with
 | true =>
  rw [hs] at h1;simp only [ql8, if_true, Option.some.injEq] at h1;rw [qaN hs, h1];exact h2
 | false =>
  obtain ⟨d, e1, e2, _⟩ := qaO hs x;rw [hs, e1] at h1;simp [ql8] at h1;rw [e2, h1];exact h2
theorem qqU : ∀ (l : List Sh) {x : El (qk3 l)} {K : List TV->Option ρ} {r : ρ}, (∀ s ∈ l, s.fine = true)->tupK l x K = some r->∃ ts, VRs σ H ts ((eaL l x).map .val)/\K ts = some r
 | [], x, K, r, _, hK => ⟨[], .nil, hK⟩
 | s :: l, x, K, r, hf, hK => by
  simp only [tupK] at hK;obtain ⟨t, h1, h2⟩ := za6 (σ := σ) (H := H) (hf s (by simp)) hK;obtain ⟨ts, h3, h4⟩ := qqU l (fun s hs => hf s (by simp [hs])) h2;exact ⟨t :: ts, .cons h1 h3, h4⟩
theorem qqV : ∀ (l : List Sh) {x : El (qiW l)} {K : TV->Option ρ} {r : ρ}, (∀ s ∈ l, s.fine = true)->resK l x K = some r->∃ t, VR σ H t (.val (ebL l x))/\K t = some r
 | [], x, K, r, _, hK => ⟨_, .tupv [] [] rfl (by simp), hK⟩
 | [s], x, K, r, hf, hK => za6 (hf s (by simp)) hK
 | a :: b :: l, x, K, r, hf, hK => by
  simp only [resK] at hK;obtain ⟨ts, h1, h2⟩ := qqU (σ := σ) (H := H) (a :: b :: l) hf hK;exact ⟨_, .tupv _ _ h1.toV.1 h1.toV.2, h2⟩
theorem qu8 (hB : BRs σ H A) : ∀ (l : List Sh) {xs : List TV} {ys : List AV} {K : El (qk3 l)->List Nat->Option ρ} {r : ρ}, VRs σ H xs ys->qlK H l xs K = some r →
  ∃ a ids ds, K a ids = some r/\ds.map zA = (eaL l a).map zA/\(∀ k, 70 + ys.length < k->qf5 A k ys = some (ds, ids.filterMap σ))/\∀ i ∈ ids, Ow H i
 | [], xs, ys, K, r, h, hK => by
  unfold qlK at hK;split at hK
  ·cases h.nil_inv
   refine ⟨(), [], [], hK, rfl, fun k hk => ?_, by simp⟩;cases k with
   | zero => omega
   | succ k => rfl
  ·cases hK
 | s :: l, xs, ys, K, r, h, hK => by
  unfold qlK at hK;split at hK
  ·cases hK
  ·rename_i x xs
   obtain ⟨y, ys, rfl, h1, h2⟩ := h.cons_inv;split at hK
   ·rename_i hs
    split at hK
    ·rename_i cs hsz
     have hsz := qg3 hsz
     obtain ⟨ys', hys', hE⟩ : ∃ ys', VRs σ H cs ys'/\((y = .agg ys')\/∃ ds, y = .val (.agg ds)/\ys' = ds.map .val) := by
      cases h1 with
      | agg _ ys' hl h' => exact ⟨ys', ⟨hl, h'⟩, .inl rfl⟩
      | aggv _ ds hl h' => exact ⟨_, .ofV hl h', .inr ⟨ds, rfl, rfl⟩⟩
     obtain ⟨a, i, ds, hK, e0, e1, e2, e3⟩ := decAll (K := fun a i => qlK H l xs fun b j => K (a, b) (i ++ j)) hB hys' hK
     replace e1 := congrArg (List.map z1) e1
     obtain ⟨b, j, es, hK, f1, f2, f3⟩ := qu8 hB l h2 hK
     have hd : ∃ d, (∀ k, 70 < k->qz9 A k y = some (d, i.filterMap σ))/\zA d = .agg ((qe1 s a).map z1) := by
      rcases hE with rfl | ⟨ds', rfl, rfl⟩
      ·refine ⟨.agg ds, fun k hk => ?_, by simp only [zA, e1]⟩
       cases k with
       | zero => omega
       | succ k => simp only [qz9, e2.run k (by omega), Option.map_some]
      ·have key : ∀ {ds' ds : List DV} {p : List Id}, ArgL A (ds'.map .val) ds p->p = []/\ds.map z1 = (ds'.map DV.norm1).map z1\/False\/∃ d ∈ ds', d.single = false := by
        intro ds'
        induction ds' with
        | nil => intro ds p h; cases h; exact .inl ⟨rfl, rfl⟩
        | cons d' ds' ih =>
         intro ds p h;cases h with
         | cons h0 h' =>
          have := h0 0;simp only [qz9, Option.some.injEq, Prod.mk.injEq] at this;obtain ⟨rfl, rfl⟩ := this;rcases ih h' with ⟨rfl, e⟩ | e | ⟨d, hd, e⟩
          ·by_cases hsg : d'.single = true
           ·have : d'.norm = d'.norm1 := by cases d' <;> first | rfl | simp [DV.single] at hsg
            exact .inl ⟨rfl, by rw [List.map_cons, List.map_cons, List.map_cons, this, e]⟩
           ·exact .inr (.inr ⟨d', by simp, by simpa using hsg⟩)
          ·exact e.elim
          ·exact .inr (.inr ⟨d, by simp [hd], e⟩)
       have hsg : ¬ ∃ d ∈ ds', d.single = false := by
        rintro ⟨d, hd, hds⟩;obtain ⟨n, hn⟩ := List.getElem?_of_mem hd
        have hall := zh4 e1 (qaM s a);have hl2 := e2.length;have hn2 : n < ds.length := by rw [hl2]; simpa using (List.getElem?_eq_some_iff.1 hn).1
        have : ∀ {ds' ds : List DV} {p : List Id}, ArgL A (ds'.map .val) ds p->∀ (n : Nat) (d d2 : DV), ds'[n]? = some d->ds[n]? = some d2->d2 = d.norm := by
         intro ds'
         induction ds' with
         | nil => intro ds p h n d d2 q1; simp at q1
         | cons d' ds' ih =>
          intro ds p h n d d2 q1 q2;cases h with
          | cons h0 h' =>
           have := h0 0;simp only [qz9, Option.some.injEq, Prod.mk.injEq] at this;cases n with
           | zero => simp at q1 q2; rw [← q1, ← q2]; exact this.1.symm
           | succ n => exact ih h' n d d2 (by simpa using q1) (by simpa using q2)
        have h5 := this e2 n d _ hn (List.getElem?_eq_getElem hn2);have h6 := List.all_eq_true.1 hall _ (List.getElem_mem hn2);rw [h5] at h6;cases d <;> first | (simp [DV.single, DV.norm, DV.norm1] at hds h6; done) | (simp [DV.single] at hds; done)
       rcases key e2 with ⟨hp, e⟩ | e | e
       ·refine ⟨.agg (ds'.map DV.norm1), fun k hk => ?_, ?_⟩
        ·cases k with
         | zero => omega
         | succ k => simp only [qz9, hp, DV.norm]
        ·simp only [zA, ← e, e1]
       ·exact e.elim
       ·exact absurd e hsg
     obtain ⟨d, hd1, hd2⟩ := hd;refine ⟨(a, b), i ++ j, d :: es, hK, ?_, fun k hk => ?_, ?_⟩
     ·simp only [eaL, List.map_cons, f1, qaN hs]
      rw [hd2];rfl
     ·cases k with
      | zero => omega
      | succ k =>
       simp only [List.length_cons] at hk;simp only [qf5, hd1 k (by omega), f2 k (by omega), List.filterMap_append]
     ·intro n hn
      rcases List.mem_append.1 hn with hn | hn
      ·exact e3 n hn
      ·exact f3 n hn
    ·cases hK
   ·rename_i hs
    obtain ⟨a, i, ds, hK, e0, e1, e2, e3⟩ := decAll (K := fun a i => qlK H l xs fun b j => K (a, b) (i ++ j)) hB (.cons h1 .nil) hK;obtain ⟨b, j, es, hK, f1, f2, f3⟩ := qu8 hB l h2 hK
    replace e1 := congrArg (List.map z1) e1
    obtain ⟨d0, g1, g2, g3⟩ := qaO hs a;generalize hq : i.filterMap σ = q at e2;cases e2 with
    | cons h0 h' =>
     rename_i d ds p p';cases h';rw [g1] at e1;simp only [List.map_cons, List.map_nil, List.cons.injEq, and_true] at e1;have hz : ∀ d : DV, d.single = true->zA d = z1 d := by intro d hd; cases d <;> first | rfl | simp [DV.single] at hd
     refine ⟨(a, b), i ++ j, d :: es, hK, ?_, fun k hk => ?_, ?_⟩
     ·simp only [eaL, List.map_cons, f1, g2]
      rw [hz d (by rw [qtW e1]; exact g3), hz d0 g3, e1]
     ·cases k with
      | zero => omega
      | succ k =>
       simp only [List.length_cons] at hk;cases k with
       | zero => omega
       | succ k =>
        simp only [qf5, h0 k, f2 (k + 1) (by omega), List.filterMap_append, hq, List.append_nil]
     ·intro n hn
      rcases List.mem_append.1 hn with hn | hn
      ·exact e3 n hn
      ·exact f3 n hn
end
end Go.AI
namespace Go.AI
variable {tabI : Inhabited TabsD}
def zs0 (A A' : Hp) : Prop := ∀ id, A' id = A id\/∃ k es es', A id = some (.row k es)/\A' id = some (.row k es')/\es'.length = es.length/\∀ (i : Nat) x x', es[i]? = some x->es'[i]? = some x'->Wds x x'
theorem zs0.refl (A : Hp) : zs0 A A := fun _ => .inl rfl
theorem zs0.sub {A A' : Hp} (h : zs0 A A') (B : Id->Prop) (e : Env) : Sub B ⟨e, A⟩ ⟨e, A'⟩ := by
 intro J F w a hE hH;refine ⟨J, F, hE, ⟨fun i b hb => ?_, fun i hi => ?_, hH.inj, hH.own, hH.live, hH.fsz, hH.tab⟩, Ext0.refl _ _ _⟩
 ·simp only at hb
  rcases h i with e1 | ⟨k, es, es', p1, p2, hl, he⟩
  ·exact hH.blk i b (e1.symm.trans hb)
  ·rw [p2] at hb
   cases hb;have := hH.blk i _ p1;cases this with
   | row s es g cap cur ty h hg hs hn hm hel hc h1 =>
    refine .row _ _ g cap cur ty h hg hs (by omega) hm (fun x' hx' => ?_) (fun j n x' d' v q1 q2 q3 => ?_) h1
    ·obtain ⟨j, hj⟩ := List.getElem?_of_mem hx'
     have hlt : j < es.length := by rw [← hl]; exact (List.getElem?_eq_some_iff.1 hj).1
     rw [(he j _ x' (List.getElem?_eq_getElem hlt) hj).1];exact hel _ (List.getElem_mem hlt)
    ·have hlt : j < es.length := by rw [← hl]; exact (List.getElem?_eq_some_iff.1 q1).1
     have hw := he j _ x' (List.getElem?_eq_getElem hlt) q1;have hlt2 : n < es[j].length := by rw [← hw.1]; exact (List.getElem?_eq_some_iff.1 q2).1
     exact hw.2 n _ d' (List.getElem?_eq_getElem hlt2) q2 _ _ _ (hc j n _ _ v (List.getElem?_eq_getElem hlt) (List.getElem?_eq_getElem hlt2) q3)
   | rowNil s cap h =>
    have : es' = [] := List.eq_nil_of_length_eq_zero (by simpa using hl);subst this;exact .rowNil _ cap h
 ·simp only at hi
  rcases h i with e1 | ⟨k, es, es', p1, p2, _⟩
  ·exact hH.none i (e1.symm.trans hi)
  ·rw [p2] at hi; cases hi
theorem za7 {A : Hp} {id : Id} {k : Nat} {es es' : List (List DV)} (hl : es'.length = es.length) (he : ∀ (i : Nat) x x', es[i]? = some x->es'[i]? = some x'->Wds x x') : zs0 (upd A id (some (.row k es))) (upd A id (some (.row k es'))) := by
 intro i;by_cases hi : i = id
 ·subst hi
  exact .inr ⟨k, es, es', qc0 _ _ _, qc0 _ _ _, hl, he⟩
 ·exact .inl (by rw [qc1 _ _ hi, qc1 _ _ hi])
theorem qoX : ∀ (l : List (El (.int .u8))), qdL (l.map (qe1 (.int .u8))) = some (l.map fun n : Int => UInt8.ofNat n.toNat)
 | [] => rfl
 | n :: l => by
  have := qoX l;show qdL ([.int .u8 n] :: l.map (qe1 (.int .u8))) = _;simp only [qdL, this, Option.map_some];rfl
theorem qtZ (b : ByteArray) : qm7 b = List.map (qe1 (.int .u8)) (bytesOf b) := by
 unfold qm7 bytesOf;show _ = List.map (qe1 (.int .u8)) (List.map (fun x : UInt8 => (x.toNat : Int)) b.data.toList);generalize b.data.toList = l
 induction l with
 | nil => rfl
 | cons x l ih => rw [List.map_cons, ih]; rfl
section
variable {σ : Nat->Option Id} {Hs h : HpT} {ρ : Type} {A : Hp} {c : Nat} {r : ρ} {id : Id} {K : TV->HpT->Nat->Option ρ} {C : FuncId->Con} {E R : Opd->TV} {q : Opd->AV} {ns : Id}
def zs2 (id : Id) (σ : Nat->Option Id) (H : HpT) (σ' : Nat->Option Id) (H' : HpT) : Prop := ∀ k b id', qa0 H' k = some b->σ' k = some id'->id' = id\/∃ b0, qa0 H k = some b0/\σ k = some id'
theorem zs2.same {H H' : HpT} (h : ∀ k b, qa0 H' k = some b->∃ b0, qa0 H k = some b0) : zs2 id σ H σ H' := fun k b id' h1 h2 => by
 obtain ⟨b0, h3⟩ := h k b h1;exact .inr ⟨b0, h3, h2⟩
theorem zs2.put {H H' : HpT} {i : Nat} {b b' : TB} (hi : qa0 H i = some b) (h : ∀ j, qa0 H' j = if j = i then some b' else qa0 H j) : zs2 id σ H σ H' := .same fun k b1 h1 => by
 rw [h] at h1;split at h1
 ·rename_i e; subst e; exact ⟨b, hi⟩
 ·exact ⟨b1, h1⟩
theorem zs2.new {H : HpT} {b : TB} : zs2 id σ H (upS σ c (some id)) ((c, b) :: H) := fun k b1 id' h1 h2 => by
 rw [qc2] at h1;simp only [upS] at h2;split at h1
 ·rename_i e
  rw [if_pos e] at h2;cases h2;exact .inl rfl
 ·rename_i e
  rw [if_neg e] at h2;exact .inr ⟨b1, h1, h2⟩
theorem zs2.trans {H H' H'' : HpT} {σ' : Nat->Option Id} (h : zs2 id σ H σ H') (h' : zs2 id σ H' σ' H'') : zs2 id σ H σ' H'' := fun k b id' h1 h2 => by
 rcases h' k b id' h1 h2 with h3 | ⟨b0, h3, h4⟩
 ·exact .inl h3
 ·exact h k b0 id' h3 h4
def qlR (dr : Bool) (sem : Option (AV × Hp)) (id : Id) (σ : Nat->Option Id) (Hs h : HpT) (A : Hp) (K : TV->HpT->Nat->Option ρ) (r : ρ) : Prop :=
 ∃ z A1 A2 t h' c' σ', sem = some (z, A1)/\zs0 A1 A2/\(dr = true->A2 = A1)/\VR σ' (h' ++ Hs) t z/\SH σ' (h' ++ Hs) c' A2/\Gos σ (h ++ Hs) σ' (h' ++ Hs)/\K t h' c' = some r/\(∀ i, i ≠ id->A i = none->A2 i = none)/\zs2 id σ (h ++ Hs) σ' (h' ++ Hs)
theorem qlR.still {dr : Bool} {sem : Option (AV × Hp)} (hS : SH σ (h ++ Hs) c A) {z : AV} {t : TV} (h1 : sem = some (z, A)) (h2 : VR σ (h ++ Hs) t z) (h3 : K t h c = some r) : qlR dr sem id σ Hs h A K r :=
 ⟨z, A, A, t, h, c, σ, h1, .refl _, fun _ => rfl, h2, hS, .refl _ _, h3, fun _ _ h => h, .same fun k b h => ⟨b, h⟩⟩
theorem qlR.row (hS : SH σ (h ++ Hs) c A) (hid : A id = none) (hs : ∀ i b, qa0 (h ++ Hs) i = some b->σ i ≠ some id) {sem : Option (AV × Hp)} {sh : Sh} (hf : sh.fine = true) {l : List (El sh)} {es : List (List DV)} {n k : Nat} (hn : n = l.length) (hk : k = sh.size)
  (hlen : es.length = l.length) (hw : ∀ (i : Nat) x x', es[i]? = some x->(l.map (qe1 sh))[i]? = some x'->Wds x x') (h1 : sem = some (.row id k 0 n, upd A id (some (.row k es)))) {dr : Bool} (hd : dr = true->es = l.map (qe1 sh)) (h3 : K (.own c) ((c, .row sh l true) :: h) (c + 1) = some r) : qlR dr sem id σ Hs h A K r := by
 subst hn; subst hk;refine ⟨_, _, upd A id (some (.row sh.size (l.map (qe1 sh)))), _, _, _, upS σ c (some id), h1, za7 (by simp [hlen]) hw, fun h => by rw [hd h], ?_, ?_, Gos.new hS, h3, fun i hi hn => by simp only [upd]; rw [if_neg hi]; exact hn, .new⟩
 ·exact .own c id sh l true (by rw [List.cons_append, qc2, if_pos rfl]) (by simp [upS])
 ·exact hS.alloc hid hs ⟨hf, .inl ⟨id, by simp [upS], qc0 _ _ _⟩⟩
theorem qa2 {i : Nat} {b : TB} (hi : qa0 h i = some b) : qa0 (h ++ Hs) i = some b := by rw [qa1, hi]; rfl
theorem qd1 {i : Nat} {b b' : TB} (hi : qa0 h i = some b) (j : Nat) : qa0 (qeH h i b' ++ Hs) j = if j = i then some b' else qa0 (h ++ Hs) j := by
 rw [qa1, zh5, qa1, hi];by_cases hj : j = i
 ·simp [hj]
 ·simp [hj]
theorem qfV {α : Type} {l ys m : List α} {bytes : Nat} (h : qn7 l ys bytes = some m) : ((l.length + ys.length) * bytes<=140737488355328/\l.length + ys.length<=maxLen)/\m = l ++ ys := by
 unfold qn7 at h;split at h
 ·cases h; exact ⟨by assumption, rfl⟩
 ·cases h
theorem qlR.eat (hS : SH σ (h ++ Hs) c A) (hid : A id = none) (hs : ∀ i b, qa0 (h ++ Hs) i = some b->σ i ≠ some id) {sh : Sh} (hf : sh.fine = true) {i : Nat} {l : List (El sh)} (hb : qa0 h i = some (.row sh l true)) {y : AV} (hy : VR σ (h ++ Hs) (.own i) y) :
  ∃ bo, qx0 A sh.size y = some (bo, l.map (qe1 sh))/\bo = σ i/\∀ {dr : Bool} (m : List (El sh)), K (.own c) ((c, .row sh m true) :: qeH h i .dead) (c + 1) = some r->qlR dr (some (.row id sh.size 0 m.length, qj5 A bo id (.row sh.size (m.map (qe1 sh))))) id σ Hs h A K r := by
 have hbl := hS.blk i _ (qa2 (Hs := Hs) hb);have hW : ∀ (m : List (El sh)) (i : Nat) x x', (m.map (qe1 sh))[i]? = some x->(m.map (qe1 sh))[i]? = some x'->Wds x x' := fun m i x x' q1 q2 => by rw [q1] at q2; cases q2; exact ⟨rfl, fun j d d' r1 r2 => by rw [r1] at r2; cases r2; exact fun F w v hr => hr⟩
 have hs2 : ∀ j b, qa0 (qeH h i .dead ++ Hs) j = some b->σ j ≠ some id := by
  intro j b hj;rw [qd1 hb] at hj;split at hj
  ·rename_i e; subst e; exact hs _ _ (qa2 hb)
  ·exact hs _ _ hj
 rcases hy.own_inv (qa2 hb) with ⟨id', hi, hxy⟩ | ⟨hi, hl0, k, hxy⟩
 ·have hrow : A id' = some (.row sh.size (l.map (qe1 sh))) := by
   rcases hbl.2 with ⟨id2, b1, b2⟩ | ⟨b1, _⟩
   ·rw [hi] at b1; cases b1; exact b2
   ·rw [hi] at b1; cases b1
  have hne : id' ≠ id := fun e => by subst e; rw [hid] at hrow; cases hrow
  refine ⟨some id', ?_, hi.symm, fun {dr} m hK => ?_⟩
  ·simp only [hxy, qx0, hrow]
   rw [if_pos ⟨trivial, trivial, trivial, by simp⟩]
  ·have hkill := hS.kill (H' := qeH h i .dead ++ Hs) (A' := upd A id' (some .dead)) (qa2 hb) (qd1 hb) (fun id2 h2 => by simp only [upd]; rw [if_neg (fun e => h2 (by rw [hi, e]))]) (fun id2 h2 => by
    simp only [upd];split
    ·rename_i e; subst e; rw [hrow] at h2; cases h2
    ·exact h2)
   have hid2 : upd A id' (some .dead) id = none := by simp only [upd]; rw [if_neg hne.symm]; exact hid
   obtain ⟨z, A1, A2, t, h', c', σ', p1, p2, p3, p4, p5, p6, p7, p8, p9⟩ := qlR.row (K := K) (dr := dr) hkill.2 hid2 hs2 hf (l := m) (es := m.map (qe1 sh)) (n := m.length) rfl rfl (by simp) (hW m)
    (sem := some (.row id sh.size 0 m.length, qj5 A (some id') id (.row sh.size (m.map (qe1 sh))))) rfl (fun _ => rfl) hK
   refine ⟨z, A1, A2, t, h', c', σ', p1, p2, p3, p4, p5, hkill.1.trans p6, p7, fun j hj hn => p8 j hj ?_, .trans (.put (qa2 hb) (qd1 hb)) p9⟩;simp only [upd];split
   ·rename_i e; subst e; rw [hrow] at hn; cases hn
   ·exact hn
 ·subst hl0
  refine ⟨none, by simp only [hxy, qx0, List.map_nil], hi.symm, fun {dr} m hK => ?_⟩;have hkill := hS.kill (H' := qeH h i .dead ++ Hs) (A' := A) (qa2 hb) (qd1 hb) (fun _ _ => rfl) (fun _ h => h)
  obtain ⟨z, A1, A2, t, h', c', σ', p1, p2, p3, p4, p5, p6, p7, p8, p9⟩ := qlR.row (K := K) (dr := dr) hkill.2 hid hs2 hf (l := m) (es := m.map (qe1 sh)) (n := m.length) rfl rfl (by simp) (hW m)
   (sem := some (.row id sh.size 0 m.length, qj5 A none id (.row sh.size (m.map (qe1 sh))))) rfl (fun _ => rfl) hK
  exact ⟨z, A1, A2, t, h', c', σ', p1, p2, p3, p4, p5, hkill.1.trans p6, p7, p8, .trans (.put (qa2 hb) (qd1 hb)) p9⟩
theorem qfW {H : HpT} {x : TV} {y : AV} {n : Int} (h : VR σ H x y) (hn : zg5 x = some n) : y = .val (.int .i64 n) := by
 unfold zg5 at hn;split at hn
 ·cases hn
  exact h.d_inv
 ·cases hn
theorem qxB {a b : Nat} (h : Nat.blt a b = true) : a < b := by
 have h2 : Nat.ble (a + 1) b = true := h;have := Nat.le_of_ble_eq_true h2;omega
theorem libK_rel {dr : Bool} (hS : SH σ (h ++ Hs) c A) (hid : A id = none) (hs : ∀ i b, qa0 (h ++ Hs) i = some b->σ i ≠ some id) {k : LibK} {sh : Sh} {args : List TV} {ys : List AV} (ha : VRs σ (h ++ Hs) args ys) (hK : libK Hs k sh args h c K = some r) : qlR dr (qc7 k id ys A) id σ Hs h A K r := by
 unfold libK at hK;split at hK
 ·cases hK
 ·rename_i hf
  split at hK
  ·rename_i s bytes x
   obtain ⟨y, ys, rfl, h1, h2⟩ := ha.cons_inv;cases h2.nil_inv;split at hK
   ·rename_i hsz
    have hsz := qb2 hsz;subst hsz;obtain ⟨l, ids, k, hK, _, _, he, _⟩ := qjO hS.blk h1 hK;obtain ⟨m, hm, hK⟩ := qi9 hK;obtain ⟨g1, hm⟩ := qfV hm;rw [hm] at hK;simp only [List.length_nil, Nat.zero_add, List.nil_append] at g1 hK;refine .row hS hid hs hf (l := l) (es := l.map (qe1 sh)) (n := l.length) rfl rfl (by simp) (fun i x x' q1 q2 => by rw [q1] at q2; cases q2; exact ⟨rfl, fun j d d' r1 r2 => by rw [r1] at r2; cases r2; exact fun F w v hr => hr⟩) ?_ (fun _ => rfl) hK
    simp only [qc7, hid, he, List.length_map];rw [if_pos g1];rfl
   ·cases hK
  ·rename_i s bytes i x j
   obtain ⟨y1, ys1, rfl, h1, h2⟩ := ha.cons_inv;obtain ⟨y2, ys2, rfl, k2, h3⟩ := h2.cons_inv;obtain ⟨y3, ys3, rfl, k3, h4⟩ := h3.cons_inv;cases h4.nil_inv;split at hK
   ·rename_i n s1 l s2 m hc hn hi hj
    split at hK
    ·rename_i hh1 hh2 _ _
     obtain ⟨hh1⟩ := hh1;obtain ⟨hh2⟩ := hh2;subst hh1;subst hh2;have hK : bX (insX l n m bytes) (fun r => fH (qeH h i .dead) fun h => K (.own c) ((c, .row s2 r true) :: h) (c + 1)) = some r := hK;obtain ⟨rr, hr, hK⟩ := qi9 hK;rw [qbS] at hK;simp only [Bool.and_eq_true, Bool.not_eq_true'] at hc;obtain ⟨⟨hsz, hij⟩, hpos⟩ := hc;have hsz := qb2 hsz;have hpos := qxB hpos;subst hsz;have hij : i ≠ j := fun e => by subst e; rw [Nat.beq_refl] at hij; cases hij
     unfold insX at hr;split at hr
     ·rename_i hcond
      cases hr;obtain ⟨bo, e1, e2, e3⟩ := qlR.eat (K := K) (r := r) hS hid hs hf hi h1;have hy2 := qfW k2 hn;subst hy2;have hjl := hS.blk j _ hj;rcases k3.own_inv hj with ⟨id', hj', hxy⟩ | ⟨_, hl0, _⟩
      ·have hrow : A id' = some (.row s2.size (m.map (qe1 s2))) := by
        rcases hjl.2 with ⟨id2, b1, b2⟩ | ⟨b1, _⟩
        ·rw [hj'] at b1; cases b1; exact b2
        ·rw [hj'] at b1; cases b1
       have hro : qx0 A s2.size y3 = some (some id', m.map (qe1 s2)) := by
        simp only [hxy, qx0, hrow];rw [if_pos ⟨trivial, trivial, trivial, by simp⟩]
       have hne : bo ≠ some id' := by
        rw [e2];intro e;exact hij (hS.inj i j id' ⟨_, qa2 hi, by simp⟩ ⟨_, hj, by simp⟩ e hj')
       have := e3 (dr := dr) (l.take n.toNat ++ m ++ l.drop n.toNat) hK
       have hlen : (l.take n.toNat ++ m ++ l.drop n.toNat).length = l.length + m.length := by
        simp only [List.length_append, List.length_take, List.length_drop];omega
       rw [hlen] at this
       have hsem : qc7 (.ins s2.size bytes) id [y1, .val (.int .i64 n), y3] A = some (.row id s2.size 0 (l.length + m.length), qj5 A bo id (.row s2.size ((l.take n.toNat ++ m ++ l.drop n.toNat).map (qe1 s2)))) := by
        simp only [qc7, hid, e1, hro, List.length_map];rw [if_pos ⟨hne, by simp only [ne_eq, List.map_eq_nil_iff]; intro e; rw [e] at hcond; exact hcond.1 rfl, hcond.2.1, hcond.2.2.1, hcond.2.2.2.1, hcond.2.2.2.2, hpos⟩];simp only [List.map_append, List.map_take, List.map_drop]
       rw [hsem];exact this
      ·rw [hl0] at hcond
       exact absurd rfl hcond.1
     ·cases hr
    ·cases hK
   ·cases hK
  ·rename_i s i x y
   obtain ⟨y1, ys1, rfl, h1, h2⟩ := ha.cons_inv;obtain ⟨y2, ys2, rfl, k2, h3⟩ := h2.cons_inv;obtain ⟨y3, ys3, rfl, k3, h4⟩ := h3.cons_inv;cases h4.nil_inv;split at hK
   ·rename_i n m s1 l hc hn hm hi
    split at hK
    ·rename_i hh1 _
     obtain ⟨hh1⟩ := hh1;subst hh1;have hK : bX (delX l n m) (fun r => fH (qeH h i .dead) fun h => K (.own c) ((c, .row s1 r true) :: h) (c + 1)) = some r := hK;obtain ⟨rr, hr, hK⟩ := qi9 hK;rw [qbS] at hK;simp only [Bool.and_eq_true] at hc;have hsz := qb2 hc.1;have hpos := qxB hc.2;subst hsz;unfold delX at hr;split at hr
     ·rename_i hcond
      cases hr;obtain ⟨bo, e1, e2, e3⟩ := qlR.eat (K := K) (r := r) hS hid hs hf hi h1;have hy2 := qfW k2 hn;subst hy2;have hy3 := qfW k3 hm;subst hy3;have := e3 (dr := dr) (l.take n.toNat ++ l.drop m.toNat) hK
      have hlen : (l.take n.toNat ++ l.drop m.toNat).length = n.toNat + (l.length - m.toNat) := by
       simp only [List.length_append, List.length_take, List.length_drop];omega
      rw [hlen] at this
      have hsem : qc7 (.del s1.size) id [y1, .val (.int .i64 n), .val (.int .i64 m)] A = some (.row id s1.size 0 (n.toNat + (l.length - m.toNat)), qj5 A bo id (.row s1.size ((l.take n.toNat ++ l.drop m.toNat).map (qe1 s1)))) := by
       simp only [qc7, hid, e1, List.length_map];rw [if_pos ⟨hcond.1, hcond.2.1, hcond.2.2.1, hcond.2.2.2, hpos⟩];simp only [List.map_append, List.map_take, List.map_drop]
      rw [hsem];exact this
     ·cases hr
    ·cases hK
   ·cases hK
  ·rename_i s bytes x
   obtain ⟨y1, ys1, rfl, h1, h2⟩ := ha.cons_inv;obtain ⟨y2, ys2, rfl, k2, h3⟩ := h2.cons_inv;cases h3.nil_inv;split at hK
   ·rename_i n hc hn
    simp only [Bool.and_eq_true] at hc;have hsz := qb2 hc.1;have hpos := qxB hc.2;subst hsz;have hy2 := qfW k2 hn;subst hy2;obtain ⟨g1, hK⟩ := qs4 hK;have g1 := of_decide_eq_true g1;obtain ⟨k, hxy⟩ : ∃ k, y1 = .val (.nils k) := by cases h1; exact ⟨_, rfl⟩
    subst hxy;refine .row hS hid hs hf (l := ([] : List (El sh))) (es := ([] : List (El sh)).map (qe1 sh)) (n := 0) rfl rfl (by simp) (fun i x x' q1 q2 => by simp at q1) ?_ (fun _ => rfl) hK
    simp only [qc7, hid];rw [if_pos ⟨g1.1, g1.2.1, g1.2.2, hpos⟩];rfl
   ·cases hK
  ·cases hK
theorem VR.box_inv {H : HpT} {i o : Nat} {y : AV} (h : VR σ H (.box i o) y) : ∃ id, σ i = some id/\y = .box id o := by
 cases h with
 | box _ _ id b h hi => exact ⟨id, hi, rfl⟩
theorem singT_av {H : HpT} {x : TV} {y : AV} (h : VR σ H x y) (hs : qwW x = true) : y.single = true := by
 cases h <;> first | rfl | (simp [qwW] at hs; done) | assumption
theorem qbT {H : HpT} : ∀ {l : List TV} {ys : List AV}, VRs σ H l ys->l.all qwW = true->ys.all AV.single = true
 | [], ys, h, _ => by cases h.nil_inv; rfl
 | x :: l, ys, h, hs => by
  obtain ⟨y, ys, rfl, h1, h2⟩ := h.cons_inv;simp only [List.all_cons, Bool.and_eq_true] at hs ⊢;exact ⟨singT_av h1 hs.1, qbT h2 hs.2⟩
theorem zs3 {ns id : Id} (hS : SH σ (h ++ Hs) c A) {tc : TCn} (hfine : ∀ r ∈ tc.res, r.fine = true) {args : List TV} {ys : List AV} (ha : VRs σ (h ++ Hs) args ys) (hK : methK Hs tc args h c K = some r) : qlR false (qnR tc ns ys A) id σ Hs h A K r := by
 unfold methK at hK;split at hK
 ·rename_i i xs
  obtain ⟨y0, ys, rfl, hx, hxs⟩ := ha.cons_inv;obtain ⟨b, hi, rfl⟩ := hx.box_inv;split at hK
  ·rename_i cells hb
   obtain ⟨id2, zs, b1, b2, b3, b4⟩ := hS.blk i _ (qa2 (Hs := Hs) hb);rw [hi] at b1;cases b1;have hag : VRs σ (h ++ Hs) (.agg cells :: xs) (.agg zs :: ys) := VRs.cons (.agg cells zs b3.1 b3.2) hxs;obtain ⟨a, ids, ds, hK, e1, e2, e3⟩ := qu8 hS.blk tc.args hag hK;split at hK
   ·rename_i h' hlen hf
    have hlen := qg3 hlen;have e2 := e2 99 (by rw [List.length_cons, hxs.1]; omega);obtain ⟨v, hv, hK⟩ := qi9 hK;obtain ⟨t, ht, hK⟩ := qqV (σ := σ) (H := h' ++ Hs) tc.res hfine hK;split at hK
    ·rename_i cs hcs
     split at hK
     ·rename_i hc
      rw [Bool.and_eq_true] at hc;obtain ⟨g1, g2⟩ := qfT hf
      have l1 : ∀ i ∈ ids, ∃ s l w, qa0 (h ++ Hs) i = some (.row s l w)/\qa0 (h' ++ Hs) i = some (.row s l false) := by
       intro i hi;obtain ⟨s, l, w, q1, q2⟩ := g1 i hi;exact ⟨s, l, w, qa2 q1, qa2 q2⟩
      have l2 : ∀ j, j ∉ ids->qa0 (h' ++ Hs) j = qa0 (h ++ Hs) j := by
       intro j hj;rw [qa1, qa1, g2 j hj]
      obtain ⟨A', f1, f2, f3, f4, f5⟩ := hS.fix (fun i hi => .inl (l1 i hi)) l2
      have hii : i ∉ ids := by
       intro hm;obtain ⟨s, l, w, q, _⟩ := g1 i hm;rw [hb] at q; cases q
      have hb' : qa0 h' i = some (.box cells) := (g2 i hii).trans hb;have hA' : A' b = some (.box zs) := (f5 i b hii ⟨_, qa2 hb, by simp⟩ hi).trans b2;obtain ⟨ys2, hy2, hv2⟩ := qu0 ht hcs;have hsg := qbT hv2 hc.2;have hln : ys2.length = zs.length := by rw [hv2.1, b3.1]; exact qb2 hc.1
      rw [qeK, qbS] at hK
      have hput := f3.put (H' := qeH h' i (.box cs) ++ Hs) (i := i) (b := .box cells) (b' := .box cs) (id := b) (x := .box ys2) (qa2 hb') (by simp) hi (by rw [hA']; simp) (qd1 hb') trivial
       (fun g => ⟨b, _, hi, qc0 _ _ _, hv2.mono g, hsg⟩)
      refine ⟨.val (.tup []), upd A' b (some (.box ys2)), _, .tup [], _, c, σ, ?_, .refl _, (fun hd => by cases hd), .tupv [] [] rfl (by simp), hput.2, f2.trans hput.1, hK, fun i' _ hn => ?_, .trans (.same fun k b hk => ?_) (.put (qa2 hb') (qd1 hb'))⟩
      ·have hsz : qm3 tc ds = some (ebL tc.res v) := by rw [qw1 tc a e1, hv]; rfl
       unfold qnR;simp only [b2, e2, f1, hsz, Option.map_some, hy2];rw [if_neg];simp only [Bool.or_eq_true, not_or];refine ⟨⟨⟨?_, qkI fun q hq => ?_⟩, ?_⟩, ?_⟩
       ·rw [List.contains_iff_mem, List.mem_filterMap]
        rintro ⟨k, hk, e⟩;obtain ⟨s1, l1', w1, q1, _⟩ := l1 k hk;exact hii (hS.inj k i b ⟨_, q1, by simp⟩ ⟨_, qa2 hb, by simp⟩ e hi ▸ hk)
       ·obtain ⟨k, hk, e⟩ := List.mem_filterMap.1 hq
        obtain ⟨s1, l1', w1, q1, _⟩ := l1 k hk;have hq1 := hS.blk k _ q1;cases w1 with
        | true =>
         rcases hq1.2 with ⟨id2, b1, b2⟩ | ⟨b1, _⟩
         ·rw [e] at b1; cases b1; rw [b2]; rfl
         ·rw [e] at b1; cases b1
        | false =>
         rcases hq1.2 with ⟨id2, b1, b2⟩ | ⟨b1, _⟩
         ·rw [e] at b1; cases b1; rw [b2]; rfl
         ·rw [e] at b1; cases b1
       ·rw [hln, Nat.beq_refl]; simp
       ·rw [hsg]; simp
      ·simp only [upd]
       split
       ·rename_i e; subst e
        have := f4 _ hn;rw [hA'] at this; cases this
       ·exact f4 i' hn
      ·by_cases hm : k ∈ ids
       ·obtain ⟨s, l, w, q1, _⟩ := l1 k hm
        exact ⟨_, q1⟩
       ·rw [l2 k hm] at hk; exact ⟨b, hk⟩
     ·cases hK
    ·cases hK
   ·cases hK
  ·cases hK
 ·cases hK
theorem qlS {dr : Bool} {X : Cx} {inl : Inl} (hS : SH σ (h ++ Hs) c A) (hid : A id = none) (hs : ∀ i b, qa0 (h ++ Hs) i = some b->σ i ≠ some id) (hC : qsD dr X C) {f : FuncId} {args : List TV} {ys : List AV} (ha : VRs σ (h ++ Hs) args ys) (hX : dr = true\/X.ct f ≠ none\/X.lb f ≠ none\/X.mt f ≠ none) (hK : zg6 X inl dr Hs f args h c K = some r) : qlR dr (qt8 C A id f ys) id σ Hs h A K r := by
 unfold zg6 at hK;split at hK
 ·rename_i tc htc
  obtain ⟨hfine, hsp⟩ := hC.1 f tc htc;obtain ⟨a, ids, ds, hK, e1, e2, e3⟩ := qu8 hS.blk tc.args ha hK;split at hK
  ·cases hK
  ·rename_i hlen
   have hlen := qg3 hlen;have e2 := e2 99 (by rw [ha.1]; omega);split at hK
   ·rename_i hflat
    obtain ⟨v, hv, hK⟩ := qi9 hK;obtain ⟨t, ht, hK⟩ := qqV (σ := σ) (H := h ++ Hs) tc.res hfine hK;exact .still hS (hsp A A id ys a ds _ v e2 e1 hv (fun _ => .inl hflat) (by rw [if_pos hflat]; simp) (by rw [if_pos hflat]; rfl)) ht hK
   ·rename_i hflat
    split at hK
    ·cases hK
    ·rename_i hdr
     split at hK
     ·rename_i h' hf
      rw [qbS] at hK;obtain ⟨v, hv, hK⟩ := qi9 hK
      have gg : (∀ i ∈ ids, Fz h h' i/\(dr = true->∃ s l w, qa0 h i = some (.row s l w)))/\∀ j, j ∉ ids->qa0 h' j = qa0 h j := by
       split at hf
       ·obtain ⟨g1, g2⟩ := qfT hf
        exact ⟨fun i hi => ⟨.inl (g1 i hi), fun _ => by obtain ⟨s, l, w, q, _⟩ := g1 i hi; exact ⟨s, l, w, q⟩⟩, g2⟩
       ·obtain ⟨g1, g2⟩ := qoU hf
        exact ⟨fun i hi => ⟨g1 i hi, fun hd => by cases hd⟩, g2⟩
      obtain ⟨g1, g2⟩ := gg
      have l1 : ∀ i ∈ ids, Fz (h ++ Hs) (h' ++ Hs) i := by
       intro i hi;rcases (g1 i hi).1 with ⟨s, l, w, q1, q2⟩ | ⟨cells, q1, q3, q4, q2⟩
       ·exact .inl ⟨s, l, w, by rw [qa1, q1]; rfl, by rw [qa1, q2]; rfl⟩
       ·exact .inr ⟨cells, by rw [qa1, q1]; rfl, q3, q4, by rw [qa1, q2]; rfl⟩
      have l2 : ∀ j, j ∉ ids->qa0 (h' ++ Hs) j = qa0 (h ++ Hs) j := by
       intro j hj;rw [qa1, qa1, g2 j hj]
      obtain ⟨A', f1, f2, f3, f4, f5⟩ := hS.fix l1 l2;obtain ⟨t, ht, hK⟩ := qqV (σ := σ) (H := h' ++ Hs) tc.res hfine hK;refine ⟨_, A', A', t, h', c, σ, ?_, .refl _, fun _ => rfl, ht, f3, f2, hK, fun i _ hi => f4 i hi, .same fun k b hk => ?_⟩
      rotate_left
      ·by_cases hm : k ∈ ids
       ·rcases l1 k hm with ⟨s, l, w, q1, _⟩ | ⟨cells, q1, _⟩
        ·exact ⟨_, q1⟩
        ·exact ⟨_, q1⟩
       ·rw [l2 k hm] at hk; exact ⟨b, hk⟩
      have hrows : dr = true->∀ i ∈ ids.filterMap σ, qnO A i = true := by
       intro hd i hi;obtain ⟨k, hk, hki⟩ := List.mem_filterMap.1 hi;obtain ⟨s1, l1', w1, hk1⟩ := (g1 k hk).2 hd;have hk1 : qa0 (h ++ Hs) k = some (.row s1 l1' w1) := by rw [qa1, hk1]; rfl
       obtain ⟨s', l, hk2⟩ : ∃ s l, qa0 (h ++ Hs) k = some (.row s l true) := by
        rcases e3 k hk with q | ⟨cells, q⟩
        ·exact q
        ·rw [hk1] at q; cases q
       have hb := hS.blk k _ hk2;rcases hb.2 with ⟨id', h1, h2⟩ | ⟨h1, _⟩
       ·rw [hki] at h1
        cases h1;unfold qnO;rw [h2]
       ·rw [hki] at h1; cases h1
      refine hsp A A' id ys a ds _ v e2 e1 hv (fun hd => .inr ?_) (fun hd => by rw [if_neg (by simpa using hflat)]; exact hrows hd) (by rw [if_neg (by simpa using hflat)]; exact f1);subst hd;simp only [Bool.not_true, Bool.false_or, Bool.or_eq_true] at hdr;rcases hdr with hdr | hdr
      ·have : ids = [] := by simpa using hdr
       subst this; exact .inl rfl
      ·exact .inr hdr
     ·cases hK
 ·rename_i hn
  split at hK
  ·rename_i k sh hl
   have e := hC.2.1 f k sh hn hl;unfold qt8;rw [e];exact libK_rel hS hid hs ha hK
  ·rename_i hl
   split at hK
   ·cases hK
   ·split at hK
    ·rename_i tc hm
     obtain ⟨hfine, e⟩ := hC.2.2 rfl f tc hn hl hm;unfold qt8;rw [e];exact zs3 hS hfine ha hK
    ·rename_i hm
     rcases hX with hd | hX | hX | hX
     ·cases hd
     ·exact absurd hn hX
     ·exact absurd hl hX
     ·exact absurd hm hX
theorem VR.elt_inv {H : HpT} {i j o : Nat} {y : AV} (h : VR σ H (.elt i j o) y) (hd : qa0 H i ≠ some .dead) : ∃ id, σ i = some id/\y = .elt id j o := by
 cases h with
 | elt _ _ _ id b h hi => exact ⟨id, hi, rfl⟩
 | eltD _ _ _ id h => exact absurd h hd
theorem qs0 {dr : Bool} {X : Cx} {inl : Inl} (hS : SH σ (h ++ Hs) c A) (hid : A id = none) (hs : ∀ i b, qa0 (h ++ Hs) i = some b->σ i ≠ some id) (hC : qsD dr X C) (hE : ∀ x, VR σ (h ++ Hs) (E x) (unw true (q x))) (op : ROp)
  (hX : dr = true\/match op with
   | .call f _ => X.ct f ≠ none\/X.lb f ≠ none\/X.mt f ≠ none
   | .callv x _ => ∀ f caps, E x = .clo f caps->X.ct f ≠ none\/X.lb f ≠ none\/X.mt f ≠ none
   | _ => True)
  (hK : qfQ X inl dr Hs E h c K op = some r) : qlR dr (qe7 C A (fun x => unw true (q x)) (fun b x => unw b (q x)) ns id (.r op)) id σ Hs h A K r := by
 cases op with
 | load n agg x =>
  simp only [qfQ] at hK;have hx := hE x;split at hK
  ·rename_i i o he
   rw [he] at hx;obtain ⟨id', hi, hy⟩ := hx.box_inv;split at hK
   ·rename_i cells hb
    obtain ⟨id2, ys, b1, b2, b3, _⟩ := hS.blk i _ hb;rw [hi] at b1;cases b1;obtain ⟨p1, z, t, p2, p3, p4⟩ := qfS b3 hK;refine .still hS ?_ p3 p4
    simp only [qe7, qiU, hy, qk1, b2];rw [if_pos p1, p2];rfl
   ·cases hK
  ·rename_i s x' o he
   rw [he] at hx;generalize hz : unw true (q x) = y at hx;cases hx with
   | pt _ _ _ hf =>
    obtain ⟨p1, z, t, p2, p3, p4⟩ := qhD (qcT (σ := σ) (H := h ++ Hs) s x' hf) hK;refine .still hS ?_ p3 p4
    simp only [qe7, qiU, hz, qk1];rw [if_pos (by rw [List.length_drop]; omega), p2];rfl
  ·rename_i i j o he
   rw [he] at hx;split at hK
   ·rename_i s l w hb
    obtain ⟨id', hi, hy⟩ := hx.elt_inv (by rw [hb]; simp);obtain ⟨v, hv, hK⟩ := qi9 hK;have hbl := hS.blk i _ hb;obtain ⟨p1, z, t, p2, p3, p4⟩ := qhD (qcT (σ := σ) (H := h ++ Hs) s v hbl.fine) hK;refine .still hS ?_ p3 p4
    have hget : (l.map (qe1 s))[j]? = some (qe1 s v) := by rw [List.getElem?_map, hv]; rfl
    cases w with
    | true =>
     rcases hbl.2 with ⟨id2, b1, b2⟩ | ⟨b1, _⟩
     ·rw [hi] at b1
      cases b1;simp only [qe7, qiU, hy, qk1, b2, hget];rw [if_pos p1, p2];rfl
     ·rw [hi] at b1; cases b1
    | false =>
     rcases hbl.2 with ⟨id2, b1, b2⟩ | ⟨b1, _⟩
     ·rw [hi] at b1
      cases b1;simp only [qe7, qiU, hy, qk1, b2, hget];rw [if_pos p1, p2];rfl
     ·rw [hi] at b1; cases b1
   ·rename_i s l hb
    obtain ⟨id', hi, hy⟩ := hx.elt_inv (by rw [hb]; simp);split at hK
    ·rename_i xs hxs
     obtain ⟨id2, ys, b1, b2, b3, b4⟩ := hS.blk i _ hb;rw [hi] at b1;cases b1;have hlt : j < ys.length := by rw [b3]; exact (List.getElem?_eq_some_iff.1 hxs).1
     have hys : ys[j]? = some ys[j] := List.getElem?_eq_getElem hlt
     obtain ⟨p1, z, t, p2, p3, p4⟩ := qfS (b4 j xs _ hxs hys) hK;refine .still hS ?_ p3 p4
     simp only [qe7, qiU, hy, qk1, b2, hys];rw [if_pos p1, p2];rfl
    ·cases hK
   ·cases hK
  ·cases hK
 | b2s x =>
  simp only [qfQ] at hK;obtain ⟨l, ids, k, h1, _, _, h2, _⟩ := qjO hS.blk (hE x) hK;refine .still hS ?_ (.d (.str (mkS l)) rfl) h1
  have h2 : elems A 1 (unw true (q x)) = some (l.map (qe1 (.int .u8))) := h2;simp only [qe7, qiU, h2, Option.bind_some];rw [show qdL (l.map (qe1 (.int .u8))) = _ from qoX l];rfl
 | s2b x =>
  simp only [qfQ] at hK;split at hK
  ·rename_i b hb
   refine .still hS ?_ (.sl (.int .u8) (bytesOf b) 1 rfl (.inl rfl)) hK
   simp only [qe7, qiU, qeL (hE x) hb, qtZ];rfl
  ·cases hK
 | sla n x lo hi =>
  simp only [qfQ] at hK;have hx := hE x;split at hK
  ·rename_i i he
   rw [he] at hx;obtain ⟨id', hi', hy⟩ := hx.box_inv;split at hK
   ·rename_i cells a b hb ha hb'
    split at hK
    ·rename_i hc
     simp only [Bool.and_eq_true] at hc;have c1 := qb2 hc.1;have h1 : 0<=a/\a<=b/\b<=(n : Int) := by simpa [qoP] using hc.2
     obtain ⟨id2, ys, b1, b2, b3, _⟩ := hS.blk i _ hb;rw [hi'] at b1;cases b1;have e1 := qh4 hE ha;have e2 := qh4 hE hb';refine .still hS ?_ (.win i 1 a.toNat (b.toNat - a.toNat) id' _ hb hi') hK
     simp only [qe7, qiU, hy, b2];rw [if_pos (by rw [b3.1]; exact c1), qm2 e1 e2 h1];rfl
    ·cases hK
   ·cases hK
  ·cases hK
 | call f args =>
  simp only [qfQ, qeK] at hK;exact qlS hS hid hs hC (VRs.map hE) hX hK
 | callv x args =>
  simp only [qfQ] at hK;have hx := hE x;split at hK
  ·rename_i f caps he
   rw [he] at hx;rw [qeK] at hK;have hX' : dr = true\/X.ct f ≠ none\/X.lb f ≠ none\/X.mt f ≠ none := hX.imp (fun h => h) (fun h => h f caps he);generalize hz : unw true (q x) = y at hx;cases hx with
   | clo _ _ ys hl hv =>
    have := qlS (id := id) hS hid hs hC ((VRs.map (l := args) hE).append ⟨hl, hv⟩) hX' hK;simpa only [qe7, hz] using this
   | clov _ _ ds hl hv =>
    have := qlS (id := id) hS hid hs hC ((VRs.map (l := args) hE).append (.ofV hl hv)) hX' hK;simpa only [qe7, hz] using this
  ·cases hK
theorem Wds.trans {a b c : List DV} (h : Wds a b) (h' : Wds b c) : Wds a c := by
 refine ⟨h'.1.trans h.1, fun j d d' h1 h2 F w v hr => ?_⟩;have hj : j < b.length := by rw [h.1]; exact (List.getElem?_eq_some_iff.1 h1).1
 exact h'.2 j _ d' (List.getElem?_eq_getElem hj) h2 F w v (h.2 j d _ h1 (List.getElem?_eq_getElem hj) F w v hr)
end
end Go.AI
namespace Go.AI
section
variable {σ : Nat->Option Id} {Hs h : HpT} {ρ : Type} {A : Hp} {c : Nat} {r : ρ} {id : Id} {K : TV->HpT->Nat->Option ρ} {C : FuncId->Con} {E R : Opd->TV} {q : Opd->AV} {ns : Id}
theorem qlR.box (hS : SH σ (h ++ Hs) c A) (hid : A id = none) (hs : ∀ i b, qa0 (h ++ Hs) i = some b->σ i ≠ some id) {sem : Option (AV × Hp)} {cells : List TV} {ys : List AV} (hv : VRs σ (h ++ Hs) cells ys) (hsg : ys.all AV.single = true) {dr : Bool}
  (h1 : sem = some (.box id 0, upd A id (some (.box ys)))) (h3 : K (.box c 0) ((c, .box cells) :: h) (c + 1) = some r) : qlR dr sem id σ Hs h A K r := by
 refine ⟨_, _, _, _, _, _, upS σ c (some id), h1, .refl _, fun _ => rfl, ?_, ?_, Gos.new hS, h3, fun i hi hn => by simp only [upd]; rw [if_neg hi]; exact hn, .new⟩
 ·exact .box c 0 id (.box cells) (by rw [List.cons_append, qc2, if_pos rfl]) (by simp [upS])
 ·exact hS.alloc hid hs ⟨id, ys, by simp [upS], qc0 _ _ _, hv.mono (Gos.new hS), hsg⟩
theorem ArgL.split : ∀ {a b : List AV} {ds : List DV} {p : List Id}, ArgL A (a ++ b) ds p->∃ d1 d2 p1 p2, ds = d1 ++ d2/\p = p1 ++ p2/\ArgL A a d1 p1/\ArgL A b d2 p2
 | [], b, ds, p, h => ⟨[], ds, [], p, rfl, rfl, .nil, h⟩
 | x :: a, b, ds, p, h => by
  cases h with
  | cons h0 h' =>
   obtain ⟨d1, d2, p1, p2, rfl, rfl, h1, h2⟩ := h'.split;exact ⟨_, d2, _, p2, rfl, (List.append_assoc ..).symm, .cons h0 h1, h2⟩
theorem ArgL.vals : ∀ {l : List DV} {ds : List DV} {p : List Id}, ArgL A (l.map .val) ds p->p = []/\ds = l.map DV.norm
 | [], ds, p, h => by cases h; exact ⟨rfl, rfl⟩
 | d :: l, ds, p, h => by
  cases h with
  | cons h0 h' =>
   have := h0 0;simp only [qz9, Option.some.injEq, Prod.mk.injEq] at this;obtain ⟨rfl, rfl⟩ := this;obtain ⟨rfl, rfl⟩ := h'.vals;exact ⟨rfl, rfl⟩
theorem Wds.refl (l : List DV) : Wds l l := ⟨rfl, fun j d d' h1 h2 => by rw [h1] at h2; cases h2; exact fun F w v hr => hr⟩
theorem Wds.norm (l : List DV) : Wds l (l.map DV.norm) := by
 refine ⟨by simp, fun j d d' h1 h2 => ?_⟩;rw [List.getElem?_map, h1] at h2;cases h2;exact fun F w v hr => hr.norm
theorem Wds.append {a b c d : List DV} (h : Wds a b) (h' : Wds c d) : Wds (a ++ c) (b ++ d) := by
 refine ⟨by simp [h.1, h'.1], fun j x x' h1 h2 => ?_⟩;by_cases hj : j < a.length
 ·rw [List.getElem?_append_left hj] at h1
  rw [List.getElem?_append_left (by rw [h.1]; exact hj)] at h2;exact h.2 j x x' h1 h2
 ·rw [List.getElem?_append_right (by omega)] at h1
  rw [List.getElem?_append_right (by rw [h.1]; omega), h.1] at h2;exact h'.2 _ x x' h1 h2
theorem qhF : ∀ (s : Sh) (x : El s), (qe1 s x).map DV.norm = qe1 s x
 | .bool, _ => rfl
 | .int _, _ => rfl
 | .str, _ => rfl
 | .ptr _, x => nomatch x
 | .slice n s, l => by
  simp only [qe1, List.map_cons, List.map_nil, List.cons.injEq, and_true];cases l <;> rfl
 | .nil, _ => rfl
 | .cons a b, x => by simp only [qe1, List.map_append, qhF a, qhF b]
theorem Wds.same (es : List (List DV)) : ∀ (i : Nat) x x', es[i]? = some x->es[i]? = some x'->Wds x x' := fun i x x' q1 q2 => by rw [q1] at q2; cases q2; exact .refl _
theorem quA {H : HpT} (hB : BRs σ H A) (hE : ∀ x, VR σ H (E x) (q x)) {sh : Sh} : ∀ {ps : List (Nat × Opd)} {l : List (El sh)} {es : List (List DV)} {K : List (El sh)->Option ρ}, es = l.map (qe1 sh)->zr0 H E sh ps l K = some r →
  ∃ l', ql9 A q sh.size es ps = some (l'.map (qe1 sh))/\l'.length = l.length/\K l' = some r
 | [], l, es, K, he, hK => by
  simp only [zr0, fS_eq] at hK;exact ⟨l, by rw [he]; rfl, rfl, hK⟩
 | (i, x) :: ps, l, es, K, he, hK => by
  unfold zr0 at hK;split at hK
  ·rename_i cs hcs
   obtain ⟨ys, h1, h2⟩ := qu0 (hE x) hcs;obtain ⟨a, ids, rest, y1, y2, ds, rfl, e1, e2, hK, e4, e5, _⟩ := qw0 hB sh h2 hK;split at hK
   ·have hlt : (Nat.ble (i + 1) l.length && Nat.ble cs.length 64) = true := by assumption
    rw [Bool.and_eq_true] at hlt;have hcl := qg3 hlt.2;have hlt : i + 1<=l.length := qg3 hlt.1;cases e2.nil_inv;rw [List.append_nil] at h1;have hlen2 : ds.length = sh.size := by rw [e4, qk9]
    have hl : es.length = l.length := by rw [he, List.length_map]
    obtain ⟨l', p1, p3, p5⟩ := quA hB hE (l := l.set i a) (es := es.set i ds) (by rw [he, e4, List.map_set]) hK;refine ⟨l', ?_, by simpa using p3, p5⟩;have hlen1 : y1.length < 99 := by have := h2.1; simp at this; omega
    simp only [ql9, h1, show qf5 A 99 y1 = some (ds, []) by simpa using e5.run 99 hlen1];rw [if_pos ⟨hlen2, by omega, by rw [e4, List.all_eq_true]; exact qaM sh a⟩];exact p1
   ·cases hK
  ·cases hK
theorem qlT {zero : List DV} {ds : List DV} {p : List Id} (hz : zero.all DV.single = true) (h : ArgL A (zero.map .val) ds p) : zero.map DV.norm1 = ds := by
 obtain ⟨_, e'⟩ := h.vals;rw [e']
 apply List.map_congr_left
 intro d hd;have := List.all_eq_true.1 hz d hd;cases d <;> first | rfl | simp [DV.single] at this
def VRss (σ : Nat->Option Id) (H : HpT) (l : List (List TV)) (ys : List (List AV)) : Prop := ys.length = l.length/\∀ (j : Nat) x y, l[j]? = some x->ys[j]? = some y->VRs σ H x y
theorem VRss.rep {H : HpT} {l : List TV} {ys : List AV} (n : Nat) (h : VRs σ H l ys) : VRss σ H (List.replicate n l) (List.replicate n ys) := by
 refine ⟨by simp, fun j x y h1 h2 => ?_⟩;rw [List.eq_of_mem_replicate (List.mem_of_getElem? h1), List.eq_of_mem_replicate (List.mem_of_getElem? h2)];exact h
theorem VRss.set {H : HpT} {l : List (List TV)} {ys : List (List AV)} (h : VRss σ H l ys) {x : List TV} {y : List AV} (hx : VRs σ H x y) (i : Nat) : VRss σ H (l.set i x) (ys.set i y) := by
 refine ⟨by simpa using h.1, fun j a b h1 h2 => ?_⟩;rw [List.getElem?_set] at h1 h2;by_cases hj : i = j
 ·subst hj
  rw [if_pos rfl] at h1 h2;split at h1
  ·cases h1
   split at h2
   ·cases h2; exact hx
   ·cases h2
  ·cases h1
 ·rw [if_neg hj] at h1 h2
  exact h.2 j a b h1 h2
theorem fLL_eq : ∀ (l : List (List TV)) (K : List (List TV)->Option ρ), fLL l K = K l
 | [], _ => rfl
 | x :: l, K => by simp only [fLL, qeK, fLL_eq l]
theorem qiI {E : Opd->TV} {s : Nat} : ∀ {ps : List (Nat × Opd)} {l r : List (List TV)}, zg7 E s ps l = some r->r.length = l.length
 | [], l, r, h => by cases h; rfl
 | (i, x) :: ps, l, r, h => by
  unfold zg7 at h;split at h
  ·split at h
   ·rw [qiI h, List.length_set]
   ·cases h
  ·cases h
theorem quB {H : HpT} {E : Opd->TV} {q : Opd->AV} (hE : ∀ x, VR σ H (E x) (q x)) {s : Nat} : ∀ {ps : List (Nat × Opd)} {l r : List (List TV)} {ys : List (List AV)}, VRss σ H l ys->zg7 E s ps l = some r->∃ zs, qm9 q s ys ps = some zs/\VRss σ H r zs
 | [], l, r, ys, h, hp => by cases hp; exact ⟨ys, rfl, h⟩
 | (i, x) :: ps, l, r, ys, h, hp => by
  unfold zg7 at hp;split at hp
  ·rename_i cs hcs
   split at hp
   ·rename_i hc
    simp only [Bool.and_eq_true] at hc;obtain ⟨⟨c1, c2⟩, c3⟩ := hc;obtain ⟨zs, h1, h2⟩ := qu0 (hE x) hcs;obtain ⟨us, h3, h4⟩ := quB hE (h.set h2 i) hp;refine ⟨us, ?_, h4⟩;simp only [qm9, h1];have := qb2 c1;have := qg3 c2;rw [if_pos ⟨by rw [h2.1]; omega, by rw [h.1]; omega, qbT h2 c3⟩];exact h3
   ·cases hp
  ·cases hp
theorem qlR.fns {dr : Bool} {sem : Option (AV × Hp)} (hS : SH σ (h ++ Hs) c A) (hid : A id = none) (hs : ∀ i b, qa0 (h ++ Hs) i = some b->σ i ≠ some id) {l : List (List TV)} {ys : List (List AV)} (hv : VRss σ (h ++ Hs) l ys) {s n : Nat} (hlen : l.length = n)
  (h1 : sem = some (.row id s 0 n, upd A id (some (.fns s ys)))) (hK : K (.win c s 0 n) ((c, .fns s l) :: h) (c + 1) = some r) : qlR dr sem id σ Hs h A K r := by
 have g := Gos.new hS (id := some id) (b := .fns s l);have hlk : qa0 ((c, TB.fns s l) :: h ++ Hs) c = some (.fns s l) := by rw [List.cons_append, qc2, if_pos rfl]
 have hup : upS σ c (some id) c = some id := by simp [upS]
 have hS' := hS.alloc (x := .fns s ys) hid hs (b := .fns s l) ⟨id, ys, hup, by rw [qc0], hv.1, fun j x y q1 q2 => (hv.2 j x y q1 q2).mono g⟩;refine ⟨_, _, _, _, _, _, _, h1, .refl _, fun _ => rfl, .win c s 0 n id _ hlk hup, hS', g, hK, fun i hi hn => ?_, .new⟩;rw [qc1 _ _ hi];exact hn
theorem zh6 {dr : Bool} (hS : SH σ (h ++ Hs) c A) (hE : ∀ x, VR σ (h ++ Hs) (E x) (unw true (q x))) (hid : A id = none) (hs : ∀ i b, qa0 (h ++ Hs) i = some b->σ i ≠ some id) (ty : Option Sh) (op : AlOp) (hK : qlL Hs E ty h c K op = some r) : qlR dr (qe7 C A (fun x => unw true (q x)) (fun b x => unw b (q x)) ns id (.a op)) id σ Hs h A K r := by
 have hsem : ∀ {o : AlOp} {x : AV} {b : Blk}, qfF C A (fun x => unw true (q x)) id o = some (x, b)->qe7 C A (fun x => unw true (q x)) (fun b x => unw b (q x)) ns id (.a o) = some (x, upd A id (some b)) := by
  intro o x b ho;simp only [qe7];rw [if_neg (by simp [hid]), ho];rfl
 cases op with
 | alloc zero =>
  simp only [qlL] at hK;split at hK
  ·rename_i hz
   rw [qeK] at hK;refine .box hS hid hs (qr8 zero) ?_ (hsem (o := .alloc zero) ?_) hK
   ·rw [List.all_eq_true] at hz ⊢
    intro y hy;obtain ⟨d, hd, rfl⟩ := List.mem_map.1 hy;exact hz d hd
   ·simp only [qfF]
    rw [if_pos hz]
  ·cases hK
 | bx x =>
  simp only [qlL] at hK;split at hK
  ·rename_i cs hcs
   split at hK
   ·rename_i hsg
    obtain ⟨ys, h1, h2⟩ := qu0 (hE x) hcs;have := qbT h2 hsg;refine .box hS hid hs h2 this (hsem (o := .bx x) ?_) hK;simp only [qfF, h1];rw [if_pos this]
   ·cases hK
  ·cases hK
 | bsl s n zero ps =>
  simp only [qlL] at hK;split at hK
  ·rename_i sh
   split at hK
   ·rename_i hc
    simp only [Bool.and_eq_true] at hc;obtain ⟨⟨⟨hf, hsz⟩, hz⟩, hn⟩ := hc;have hsz := qb2 hsz;have hn := qg3 hn;subst hsz;obtain ⟨z, ids, rest, y1, y2, ds, hy, e1, e2, hK, e4, e5, _⟩ := qw0 hS.blk sh (qr8 zero) hK;split at hK
    ·cases e2.nil_inv
     rw [List.append_nil] at hy;subst hy;have hzn := (qlT hz e5).trans e4;obtain ⟨l', p1, p3, p5⟩ := quA hS.blk hE (sh := sh) (l := List.replicate n z) (es := List.replicate n (zero.map DV.norm1)) (by rw [hzn, List.map_replicate]) hK;refine .row hS hid hs hf (l := l') (es := l'.map (qe1 sh)) (n := n) (by simpa using p3.symm) rfl (by simp) (Wds.same _) (hsem (o := .bsl sh.size n zero ps) ?_) (fun _ => rfl) p5;simp only [qfF];rw [if_neg (by simp only [hz, Bool.not_true, Bool.false_eq_true, false_or]; omega), p1];rfl
    ·cases hK
   ·cases hK
  ·cases hK
 | bsf s n zero ps =>
  simp only [qlL] at hK;split at hK
  ·rename_i l hc hl
   simp only [Bool.and_eq_true] at hc;have hn := qg3 hc.2;rw [fLL_eq] at hK;obtain ⟨es, p1, p2⟩ := quB hE (VRss.rep n (qr8 zero)) hl;have hlen : l.length = n := by rw [qiI hl, List.length_replicate]
   refine .fns hS hid hs p2 hlen (hsem (o := .bsf s n zero ps) ?_) hK;simp only [qfF];rw [if_neg (by simp only [hc.1, Bool.not_true, Bool.false_eq_true, false_or]; omega), p1];rfl
  ·cases hK
 | mks s bytes zero n m =>
  simp only [qlL] at hK;split at hK
  ·rename_i sh n' m' hn hm
   split at hK
   ·rename_i hc
    simp only [Bool.and_eq_true] at hc;obtain ⟨⟨⟨hf, hsz⟩, hz⟩, hzl⟩ := hc;have hsz := qb2 hsz;have hzl := qb2 hzl;subst hsz;obtain ⟨z, ids, rest, y1, y2, ds, hy, e1, e2, hK, e4, e5, _⟩ := qw0 hS.blk sh (qr8 zero) hK;split at hK
    ·cases e2.nil_inv
     rw [List.append_nil] at hy;subst hy;have hzn := (qlT hz e5).trans e4;obtain ⟨g1, hK⟩ := qs4 hK;have g1 := of_decide_eq_true g1;refine .row hS hid hs hf (l := List.replicate n'.toNat z) (es := List.replicate n'.toNat (zero.map DV.norm1)) (n := n'.toNat) (by simp) rfl (by simp) ?_ (hsem (o := .mks sh.size bytes zero n m) ?_) (fun _ => by rw [hzn, List.map_replicate]) hK
     ·rw [hzn, ← List.map_replicate]
      exact Wds.same _
     ·simp only [qfF, qaL (hE n) hn, qaL (hE m) hm]
      rw [if_pos ⟨g1.1, g1.2.1, g1.2.2.1, g1.2.2.2, hz, hzl⟩]
    ·cases hK
   ·cases hK
  ·cases hK
theorem zs4 (hS : SH σ (h ++ Hs) c A) (hE : ∀ x, VR σ (h ++ Hs) (E x) (unw true (q x))) {sh : Sh} {str : Bool} {y : Opd} {K : List (El sh)->Option ρ} (hK : appsK E sh str y (h ++ Hs) K = some r) :
  ∃ l, K l = some r/\∀ (bytes : Nat) (x : Opd), A id = none->qe7 C A (fun x => unw true (q x)) (fun b x => unw b (q x)) ns id (.w (.app sh.size bytes str x y)) = qr3 A id sh.size bytes (l.map (qe1 sh)) (unw true (q x)) := by
 unfold appsK at hK;split at hK
 ·split at hK
  ·rename_i b hh hb _
   obtain ⟨hh⟩ := hh;subst hh;have hK : K (bytesOf b) = some r := hK;refine ⟨bytesOf b, hK, fun bytes x hid => ?_⟩;simp only [qe7, qdE, if_true, qeL (hE y) hb];rw [if_neg (by simp [hid]), qtZ b]
  ·cases hK
 ·obtain ⟨l, ids, k, h1, _, _, h2, _⟩ := qjO hS.blk (hE y) hK
  refine ⟨l, h1, fun bytes x hid => ?_⟩;simp only [qe7, qdE, Bool.false_eq_true, if_false, h2];rw [if_neg (by simp [hid])]
theorem zh7 {dr : Bool} (hS : SH σ (h ++ Hs) c A) (hE : ∀ x, VR σ (h ++ Hs) (E x) (unw true (q x))) (hid : A id = none) (hs : ∀ i b, qa0 (h ++ Hs) i = some b->σ i ≠ some id) (ty : Option Sh) (op : WOp) (hK : qoQ Hs E ty h c K op = some r) : qlR dr (qe7 C A (fun x => unw true (q x)) (fun b x => unw b (q x)) ns id (.w op)) id σ Hs h A K r := by
 cases op with
 | store n x v =>
  simp only [qoQ] at hK;split at hK
  ·rename_i cs hcs
   split at hK
   ·rename_i hc
    rw [Bool.and_eq_true] at hc;obtain ⟨ys, hy, hv⟩ := qu0 (hE v) hcs;have hsg := qbT hv hc.2;have hlen : ys.length = n := by rw [hv.1]; exact qb2 hc.1
    have hx := hE x;split at hK
    ·rename_i i o he
     rw [he] at hx;obtain ⟨id', hi, hxy⟩ := hx.box_inv;split at hK
     ·rename_i cells hb
      split at hK
      ·rename_i ho
       have ho := qg3 ho;rw [qeK, qbS] at hK;obtain ⟨id2, zs, b1, b2, b3, b4⟩ := hS.blk i _ (qa2 (Hs := Hs) hb);rw [hi] at b1;cases b1
       have hsg2 : (splice zs o ys).all AV.single = true := by
        unfold splice;rw [List.all_eq_true] at b4 hsg ⊢;intro y hm;rcases List.mem_append.1 hm with hm | hm
        ·rcases List.mem_append.1 hm with hm | hm
         ·exact b4 y (List.mem_of_mem_take hm)
         ·exact hsg y hm
        ·exact b4 y (List.mem_of_mem_drop hm)
       have hput := hS.put (H' := qeH h i (.box (splice cells o cs)) ++ Hs) (i := i) (b := .box cells) (b' := .box (splice cells o cs)) (id := id') (x := .box (splice zs o ys)) (qa2 hb) (by simp) hi (by rw [b2]; simp) (qd1 hb) trivial
        (fun g => ⟨id', _, hi, qc0 _ _ _, (b3.splice hv o).mono g, hsg2⟩)
       refine ⟨_, _, _, .tup [], _, c, σ, ?_, .refl _, fun _ => rfl, .tupv [] [] rfl (by simp), hput.2, hput.1, hK, fun i' _ hn => ?_, .put (qa2 hb) (qd1 hb)⟩
       ·simp only [qe7, qdE, hy]
        rw [if_pos ⟨hlen, hsg⟩];simp only [hxy, b2];rw [if_pos (by rw [b3.1]; omega)]
       ·simp only [upd]
        split
        ·rename_i e; subst e; rw [b2] at hn; cases hn
        ·exact hn
      ·cases hK
     ·cases hK
    ·rename_i i j o he
     rw [he] at hx;split at hK
     ·rename_i s l hb
      split at hK
      ·rename_i ho
       rw [Bool.and_eq_true] at ho;have hn64 := qg3 ho.2;have ho := qg3 ho.1;obtain ⟨id', hi, hxy⟩ := hx.elt_inv (by rw [qa2 (Hs := Hs) hb]; simp);obtain ⟨v0, hv0, hK⟩ := qi9 hK;have hbl := hS.blk i _ (qa2 (Hs := Hs) hb)
       have hrow : A id' = some (.row s.size (l.map (qe1 s))) := by
        rcases hbl.2 with ⟨id2, b1, b2⟩ | ⟨b1, _⟩
        ·rw [hi] at b1; cases b1; exact b2
        ·rw [hi] at b1; cases b1
       have hget : (l.map (qe1 s))[j]? = some (qe1 s v0) := by rw [List.getElem?_map, hv0]; rfl
       have hsp : VRs σ (h ++ Hs) (splice (encT s v0) o cs) (splice ((qe1 s v0).map .val) o ys) := (qcT s v0 hbl.fine).splice hv o;obtain ⟨x', ids, rest, y1, y2, ds, hy12, e1, e2, hK, e4, e5, e6⟩ := qw0 hS.blk s hsp hK;split at hK
       ·rename_i h' hni hf
        cases e2.nil_inv;rw [List.append_nil] at hy12;subst hy12;rw [qbS] at hK;obtain ⟨dA, d3, p1, p3, rfl, hp, a1, a2⟩ := e5.split;obtain ⟨d1, d2, p1, p2, rfl, rfl, a1, a3⟩ := a1.split;rw [← List.map_take] at a1;rw [← List.map_drop] at a2;obtain ⟨rfl, rfl⟩ := a1.vals;obtain ⟨rfl, rfl⟩ := a2.vals;simp only [List.nil_append, List.append_nil] at hp;subst hp;have hrun : qf5 A 99 ys = some (d2, ids.filterMap σ) := a3.run 99 (by omega);obtain ⟨g1, g2⟩ := qfT hf
        have l1 : ∀ i ∈ ids, ∃ s l w, qa0 (h ++ Hs) i = some (.row s l w)/\qa0 (h' ++ Hs) i = some (.row s l false) := by
         intro i hi;obtain ⟨s, l, w, q1, q2⟩ := g1 i hi;exact ⟨s, l, w, qa2 q1, qa2 q2⟩
        have l2 : ∀ j, j ∉ ids->qa0 (h' ++ Hs) j = qa0 (h ++ Hs) j := by
         intro j hj;rw [qa1, qa1, g2 j hj]
        obtain ⟨A', f1, f2, f3, f4, f5⟩ := hS.fix (fun i hi => .inl (l1 i hi)) l2;have hii : i ∉ ids := by simpa using hni
        have hb' : qa0 h' i = some (.row s l true) := (g2 i hii).trans hb;have hA' : A' id' = some (.row s.size (l.map (qe1 s))) := (f5 i id' hii ⟨_, qa2 hb, by simp⟩ hi).trans hrow
        have hput := f3.put (H' := qeH h' i (.row s (l.set j x') true) ++ Hs) (i := i) (b' := .row s (l.set j x') true) (id := id') (x := .row s.size ((l.set j x').map (qe1 s))) (qa2 hb') (by simp) hi (by rw [hA']; simp) (qd1 hb') ⟨rfl, by simp⟩
         (fun g => ⟨hbl.1, .inl ⟨id', hi, qc0 _ _ _⟩⟩)
        refine ⟨_, upd A' id' (some (.row s.size ((l.map (qe1 s)).set j (splice (qe1 s v0) o d2)))), _, .tup [], _, c, σ, ?_, ?_, (fun hd => ?_), .tupv [] [] rfl (by simp), hput.2, f2.trans hput.1, hK, fun i' _ hn => ?_, .trans (.same fun k b hk => ?_) (.put (qa2 hb') (qd1 hb'))⟩
        ·simp only [qe7, qdE, hy]
         rw [if_pos ⟨hlen, hsg⟩];simp only [hxy, hrow, hrun, qyX, hget, f1];have hl2 : d2.length = ys.length := a3.length;rw [if_pos (by rw [qk9, hl2]; omega)];simp only;rw [if_neg];rw [Bool.or_eq_true, not_or];refine ⟨?_, qkI fun q hq => ?_⟩
         rotate_left
         ·obtain ⟨k, hk, e⟩ := List.mem_filterMap.1 hq
          obtain ⟨s1, l1', w1, q1, _⟩ := l1 k hk;have hq1 := hS.blk k _ q1;cases w1 with
          | true =>
           rcases hq1.2 with ⟨id2, b1, b2⟩ | ⟨b1, _⟩
           ·rw [e] at b1; cases b1; rw [b2]; rfl
           ·rw [e] at b1; cases b1
          | false =>
           rcases hq1.2 with ⟨id2, b1, b2⟩ | ⟨b1, _⟩
           ·rw [e] at b1; cases b1; rw [b2]; rfl
           ·rw [e] at b1; cases b1
         rw [List.contains_iff_mem, List.mem_filterMap];rintro ⟨k, hk, e⟩;obtain ⟨s1, l1', w1, q1, _⟩ := l1 k hk;exact hii (hS.inj k i id' ⟨_, q1, by simp⟩ ⟨_, qa2 hb, by simp⟩ e hi ▸ hk)
        ·refine za7 (by simp) (fun n x x2 q1 q2 => ?_)
         rw [List.map_set] at q2;rw [List.getElem?_set] at q1 q2;by_cases hjn : j = n
         ·have hjl : j < (l.map (qe1 s)).length := (List.getElem?_eq_some_iff.1 hget).1
          rw [if_pos hjn, if_pos (by omega)] at q1 q2;cases q1; cases q2;refine Wds.trans ?_ (Wds.of_z1 (congrArg (List.map z1) e4))
          unfold splice;have hl2 : d2.length = ys.length := a3.length;rw [hl2];exact ((Wds.norm _).append (Wds.refl _)).append (Wds.norm _)
         ·rw [if_neg hjn] at q1 q2
          rw [q1] at q2;cases q2;exact Wds.refl _
        ·have hl2 : d2.length = ys.length := a3.length
         have hm := qhF s v0
         have e7 : splice (qe1 s v0) o d2 = qe1 s x' := by
          have hsp2 : splice (qe1 s v0) o d2 = ((qe1 s v0).map DV.norm).take o ++ d2 ++ ((qe1 s v0).map DV.norm).drop (o + ys.length) := by rw [hm, ← hl2]; rfl
          rw [← e4, hsp2, List.map_take, List.map_drop]
         rw [List.map_set, e7]
        ·simp only [upd]
         split
         ·rename_i e; subst e; rw [hrow] at hn; cases hn
         ·exact f4 i' hn
        ·by_cases hm : k ∈ ids
         ·obtain ⟨s, l, w, q1, _⟩ := l1 k hm
          exact ⟨_, q1⟩
         ·rw [l2 k hm] at hk; exact ⟨b, hk⟩
       ·cases hK
      ·cases hK
     ·cases hK
    ·cases hK
   ·cases hK
  ·cases hK
 | app s bytes str x y =>
  simp only [qoQ] at hK;split at hK
  ·rename_i sh
   split at hK
   ·rename_i hc
    rw [Bool.and_eq_true] at hc;have hsz := qb2 hc.2;subst hsz;obtain ⟨ys, hK, he⟩ := zs4 (id := id) (C := C) (ns := ns) hS hE hK;have he := fun x => he bytes x hid
    have hx := hE x;split at hK
    ·rename_i hex
     rw [hex] at hx;obtain ⟨k, hxy⟩ : ∃ k, unw true (q x) = .val (.nils k) := by generalize unw true (q x) = z at hx; cases hx; exact ⟨_, rfl⟩
     obtain ⟨m, hm, hK⟩ := qi9 hK;obtain ⟨g1, hm⟩ := qfV hm;rw [hm] at hK;simp only [List.length_nil, Nat.zero_add, List.nil_append] at g1 hK;refine .row hS hid hs hc.1 (l := ys) (es := ys.map (qe1 sh)) (n := ys.length) rfl rfl (by simp) (fun i x x' q1 q2 => by rw [q1] at q2; cases q2; exact ⟨rfl, fun j d d' r1 r2 => by rw [r1] at r2; cases r2; exact fun F w v hr => hr⟩) ?_ (fun _ => rfl) hK
     rw [he x];simp only [qr3, hxy, List.length_map];rw [if_pos g1]
    ·rename_i i hex
     rw [hex] at hx;split at hK
     ·rename_i s' l hb
      split at hK
      ·rename_i hh _
       obtain ⟨hh⟩ := hh;subst hh;rw [zh3] at hK;obtain ⟨m, hm, hK⟩ := qi9 hK;obtain ⟨g1, rfl⟩ := qfV hm;rw [qbS] at hK;have hbl := hS.blk i _ (qa2 (Hs := Hs) hb);have hW : ∀ (i : Nat) x x', ((l ++ ys).map (qe1 s'))[i]? = some x->((l ++ ys).map (qe1 s'))[i]? = some x'->Wds x x' := fun i x x' q1 q2 => by rw [q1] at q2; cases q2; exact ⟨rfl, fun j d d' r1 r2 => by rw [r1] at r2; cases r2; exact fun F w v hr => hr⟩
       rcases hx.own_inv (qa2 hb) with ⟨id', hi, hxy⟩ | ⟨hi, hl0, k, hxy⟩
       ·have hrow : A id' = some (.row s'.size (l.map (qe1 s'))) := by
         rcases hbl.2 with ⟨id2, b1, b2⟩ | ⟨b1, _⟩
         ·rw [hi] at b1; cases b1; exact b2
         ·rw [hi] at b1; cases b1
        have hne : id' ≠ id := fun e => by subst e; rw [hid] at hrow; cases hrow
        have hkill := hS.kill (H' := qeH h i .dead ++ Hs) (A' := upd A id' (some .dead)) (qa2 hb) (qd1 hb) (fun id2 h2 => by simp only [upd]; rw [if_neg (fun e => h2 (by rw [hi, e]))]) (fun id2 h2 => by
         simp only [upd];split
         ·rename_i e; subst e; rw [hrow] at h2; cases h2
         ·exact h2)
        have hid2 : upd A id' (some .dead) id = none := by simp only [upd]; rw [if_neg hne.symm]; exact hid
        have hs2 : ∀ j b, qa0 (qeH h i .dead ++ Hs) j = some b->σ j ≠ some id := by
         intro j b hj;rw [qd1 hb] at hj;split at hj
         ·rename_i e; subst e; exact hs _ _ (qa2 hb)
         ·exact hs _ _ hj
        obtain ⟨z, A1, A2, t, h', c', σ', p1, p2, p3, p4, p5, p6, p7, p8, p9⟩ := qlR.row (K := K) (dr := dr) hkill.2 hid2 hs2 hc.1 (l := l ++ ys) (es := (l ++ ys).map (qe1 s')) (n := l.length + ys.length) (by simp) rfl (by simp) hW
         (sem := some (.row id s'.size 0 (l.length + ys.length), upd (upd A id' (some .dead)) id (some (.row s'.size ((l ++ ys).map (qe1 s')))))) rfl (fun _ => rfl) hK
        refine ⟨z, A1, A2, t, h', c', σ', ?_, p2, p3, p4, p5, hkill.1.trans p6, p7, fun j hj hn => p8 j hj ?_, .trans (.put (qa2 hb) (qd1 hb)) p9⟩
        ·rw [← p1]
         rw [he x];simp only [qr3, hxy, hrow, List.length_map];rw [if_pos ⟨trivial, trivial, trivial, Nat.le_refl _, g1.1, g1.2⟩];simp [qr9]
        ·simp only [upd]
         split
         ·rename_i e; subst e; rw [hrow] at hn; cases hn
         ·exact hn
       ·subst hl0
        have hkill := hS.kill (H' := qeH h i .dead ++ Hs) (A' := A) (qa2 hb) (qd1 hb) (fun _ _ => rfl) (fun _ h => h)
        have hs2 : ∀ j b, qa0 (qeH h i .dead ++ Hs) j = some b->σ j ≠ some id := by
         intro j b hj;rw [qd1 hb] at hj;split at hj
         ·rename_i e; subst e; exact hs _ _ (qa2 hb)
         ·exact hs _ _ hj
        obtain ⟨z, A1, A2, t, h', c', σ', p1, p2, p3, p4, p5, p6, p7, p8, p9⟩ := qlR.row (K := K) (dr := dr) hkill.2 hid hs2 hc.1 (l := [] ++ ys) (es := ([] ++ ys).map (qe1 s')) (n := ys.length) (by simp) rfl (by simp) hW
         (sem := some (.row id s'.size 0 ys.length, upd A id (some (.row s'.size (([] ++ ys).map (qe1 s')))))) rfl (fun _ => rfl) hK
        refine ⟨z, A1, A2, t, h', c', σ', ?_, p2, p3, p4, p5, hkill.1.trans p6, p7, p8, .trans (.put (qa2 hb) (qd1 hb)) p9⟩;rw [← p1];rw [he x];simp only [qr3, hxy, List.length_map];simp only [List.length_nil, Nat.zero_add] at g1;rw [if_pos g1];simp
      ·cases hK
     ·cases hK
    ·cases hK
   ·cases hK
  ·cases hK
 | clr s zero x =>
  simp only [qoQ] at hK;have hx := hE x;split at hK
  ·rename_i hex
   rw [hex] at hx;obtain ⟨k, hxy⟩ : ∃ k, unw true (q x) = .val (.nils k) := by generalize unw true (q x) = z at hx; cases hx; exact ⟨_, rfl⟩
   refine ⟨.val (.tup []), A, A, .tup [], h, c, σ, ?_, .refl _, fun _ => rfl, .tupv [] [] rfl (by simp), hS, .refl _ _, hK, fun i' _ hn => hn, .same fun k b hk => ⟨b, hk⟩⟩;simp only [qe7, qdE, hxy]
  ·rename_i i o n hex
   rw [hex] at hx;split at hK
   ·rename_i sh l hb
    split at hK
    ·rename_i hc
     simp only [Bool.and_eq_true] at hc;obtain ⟨⟨hsz, hz⟩, hzl⟩ := hc;have hsz := qb2 hsz;have hzl := qb2 hzl;subst hsz;obtain ⟨z, ids, rest, y1, y2, ds, hy, e1, e2, hK, e4, e5, _⟩ := qw0 hS.blk sh (qr8 zero) hK;split at hK
     ·cases e2.nil_inv
      rw [List.append_nil] at hy;subst hy;have hzn := (qlT hz e5).trans e4;obtain ⟨g1, hK⟩ := qs4 hK;have g1 := qg3 g1;rw [qbS] at hK;have hbl := hS.blk i _ (qa2 (Hs := Hs) hb);rcases hx.row_inv (qa2 hb) with ⟨id', hi, hxy, ho⟩ | ⟨hi, hl0, ho0, hn0, k, hxy⟩
      ·have hrow : A id' = some (.row sh.size (l.map (qe1 sh))) := by
        rcases hbl.2 with ⟨id2, b1, b2⟩ | ⟨b1, _⟩
        ·rw [hi] at b1; cases b1; exact b2
        ·rw [hi] at b1; cases b1
       have hput := hS.put (H' := qeH h i (.row sh (l.take o ++ List.replicate n z ++ l.drop (o + n)) true) ++ Hs) (i := i) (b' := .row sh (l.take o ++ List.replicate n z ++ l.drop (o + n)) true) (id := id') (x := .row sh.size ((l.take o ++ List.replicate n z ++ l.drop (o + n)).map (qe1 sh))) (qa2 hb) (by simp) hi (by rw [hrow]; simp) (qd1 hb) ⟨rfl, by simp; omega⟩
        (fun g => ⟨hbl.1, .inl ⟨id', hi, qc0 _ _ _⟩⟩)
       refine ⟨.val (.tup []), _, _, .tup [], _, c, σ, ?_, .refl _, fun _ => rfl, .tupv [] [] rfl (by simp), hput.2, hput.1, hK, fun i' _ hn => ?_, .put (qa2 hb) (qd1 hb)⟩
       ·simp only [qe7, qdE, hxy, hrow]
        rw [if_pos ⟨trivial, trivial, hzl, hz, by rw [List.length_map]; exact g1⟩];simp only [List.map_append, List.map_take, List.map_drop, List.map_replicate, hzn]
       ·simp only [upd]
        split
        ·rename_i e; subst e; rw [hrow] at hn; cases hn
        ·exact hn
      ·subst hl0 ho0 hn0
       have he : ∀ j, qa0 (qeH h i (.row sh (List.take 0 [] ++ List.replicate 0 z ++ List.drop (0 + 0) []) true) ++ Hs) j = qa0 (h ++ Hs) j := by
        intro j;rw [qd1 hb];split
        ·rename_i e; subst e; exact (qa2 hb).symm
        ·rfl
       refine ⟨.val (.tup []), A, A, .tup [], _, c, σ, ?_, .refl _, fun _ => rfl, .tupv [] [] rfl (by simp), hS.congr he, fun j b hj => ⟨rfl, b, (he j).trans hj, Cp.refl b⟩, hK, fun i' _ hn => hn, .same fun k b hk => ⟨b, (he k).symm.trans hk⟩⟩;simp only [qe7, qdE, hxy]
     ·cases hK
    ·cases hK
   ·cases hK
  ·cases hK
 | s2s x =>
  simp only [qoQ] at hK;have hx := hE x;split at hK
  ·rename_i i hex
   rw [hex] at hx;split at hK
   ·rename_i s l hb
    obtain ⟨g1, hK⟩ := qs4 hK;have g1 : l.length ≠ 0 := of_decide_eq_true g1;rw [qbS] at hK;have hbl := hS.blk i _ (qa2 (Hs := Hs) hb);rcases hx.own_inv (qa2 hb) with ⟨id', hi, hxy⟩ | ⟨hi, hl0, k, hxy⟩
    ·have hrow : A id' = some (.row s.size (l.map (qe1 s))) := by
      rcases hbl.2 with ⟨id2, b1, b2⟩ | ⟨b1, _⟩
      ·rw [hi] at b1; cases b1; exact b2
      ·rw [hi] at b1; cases b1
     have hput := hS.put (H' := qeH h i (.row s l false) ++ Hs) (i := i) (b' := .row s l false) (id := id') (x := .frow s.size (l.map (qe1 s))) (qa2 hb) (by simp) hi (by rw [hrow]; simp) (qd1 hb) ⟨rfl, rfl⟩
      (fun g => ⟨hbl.1, .inl ⟨id', hi, qc0 _ _ _⟩⟩)
     refine ⟨.row id' s.size 0 l.length, _, _, .own i, _, c, σ, ?_, .refl _, fun _ => rfl, ?_, hput.2, hput.1, hK, fun i' _ hn => ?_, .put (qa2 hb) (qd1 hb)⟩
     ·simp only [qe7, qdE, hxy, hrow]
      rw [if_pos ⟨g1, trivial⟩]
     ·exact .own i id' s l false (by rw [qd1 hb, if_pos rfl]) hi
     ·simp only [upd]
      split
      ·rename_i e; subst e; rw [hrow] at hn; cases hn
      ·exact hn
    ·subst hl0; exact absurd rfl g1
   ·cases hK
  ·cases hK
end
end Go.AI
