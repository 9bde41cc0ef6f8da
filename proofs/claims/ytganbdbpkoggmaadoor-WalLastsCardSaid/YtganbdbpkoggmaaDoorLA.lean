/- An abstract reading of Go code: part LA of the library. No condition. -/
import Derived.Calls
import Derived.WalkKit
import Derived.KernelRfl
import Derived.Laws.AppendOwn
import Derived.Laws.OwnMore
import Derived.Laws.Slices
import Derived.Laws.BytesString
import Derived.Deep.MidRow
import Derived.Orders
import Derived.Laws.StructEq
import Derived.Laws.Shifts
import Derived.ChangeKeysEq
import Derived.Laws.Tables
import Derived.Laws.Cover1
set_option linter.unusedVariables false
set_option linter.unusedSimpArgs false
namespace Go.AI
inductive DV where
 | int (k : IntKind) (n : Int)
 | bool (b : Bool)
 | str (s : ByteArray)
 | sl (s : Nat) (l : List (List DV))
 | nils (s : Nat)
 | pt (cells : List DV)
 | nilp
 | nili
 | ifc (t : TypeId) (d : DV)
 | fn (f : FuncId) (caps : List DV)
 | nilf
 | agg (l : List DV)
 | tup (l : List DV)
 deriving Inhabited
def DV.single : DV->Bool
 | .agg _ => false
 | .tup _ => false
 | _ => true
inductive Rep (F : Nat->Prop) (w : World) : DV->Value->Prop
 | int (k : IntKind) (n : Int) : Rep F w (.int k n) (.int k n)
 | bool (b : Bool) : Rep F w (.bool b) (.bool b)
 | str (s : ByteArray) : Rep F w (.str s) (.string s)
 | sl0 (s : Nat) (a : Option Addr) (c : Nat) : Rep F w (.sl s []) (.slice a 0 c)
 | nils (s : Nat) (a : Option Addr) : Rep F w (.nils s) (.slice a 0 0)
 | sl (s : Nat) (l : List (List DV)) (g o c : Nat) (vals : Nat->Nat->Value) (hs : ∀ e ∈ l, e.length = s) (hc : l.length<=c)
   (h1 : ∀ e ∈ l, ∀ d ∈ e, DV.single d = true) (hF : F g) (hcell : ∀ i j e d, l[i]? = some e->e[j]? = some d->w.cell? ⟨g, o + (i * s + j), none⟩ = some (vals i j))
   (hrep : ∀ i j e d, l[i]? = some e->e[j]? = some d->Rep F w d (vals i j)) : Rep F w (.sl s l) (.slice (some ⟨g, o, none⟩) l.length c)
 | pt (cells : List DV) (g o : Nat) (vals : Nat->Value) (hF : F g) (hcell : ∀ j d, cells[j]? = some d->w.cell? ⟨g, o + j, none⟩ = some (vals j))
   (hrep : ∀ j d, cells[j]? = some d->Rep F w d (vals j)) : Rep F w (.pt cells) (.pointer (some ⟨g, o, none⟩))
 | nilp : Rep F w .nilp (.pointer none)
 | nili : Rep F w .nili .nilIface
 | ifc (t : TypeId) (d : DV) (v : Value) (h : Rep F w d v) : Rep F w (.ifc t d) (.iface t v)
 | fn (f : FuncId) (caps : List DV) (vs : List Value) (hl : vs.length = caps.length) (h : ∀ (j : Nat) d v, caps[j]? = some d->vs[j]? = some v->Rep F w d v) :
   Rep F w (.fn f caps) (.func (.func f) #[] vs.toArray)
 | nilf : Rep F w .nilf .nilFunc
 | agg (l : List DV) (vs : List Value) (hl : vs.length = l.length) (h : ∀ (j : Nat) d v, l[j]? = some d->vs[j]? = some v->Rep F w d v) : Rep F w (.agg l) (.agg vs.toArray)
 | tup (l : List DV) (vs : List Value) (hl : vs.length = l.length) (h : ∀ (j : Nat) d v, l[j]? = some d->vs[j]? = some v->Rep F w d v) : Rep F w (.tup l) (.tuple vs.toArray)
theorem Rep.mono {F F' : Nat->Prop} {w w' : World} {d : DV} {v : Value} (h : Rep F w d v) (hF : ∀ g, F g->F' g) (hw : ∀ g, F g->w'.heap[g]? = w.heap[g]?) : Rep F' w' d v := by
 induction h with
 | int k n => exact .int k n
 | bool b => exact .bool b
 | str s => exact .str s
 | sl0 s a c => exact .sl0 s a c
 | nils s a => exact .nils s a
 | sl s l g o c vals hs hc h1 hg hcell _ ih =>
  exact .sl s l g o c vals hs hc h1 (hF g hg) (fun i j e d h1 h2 => by rw [World.cell?_of_block (a := ⟨g, o + (i * s + j), none⟩) (hw g hg)]; exact hcell i j e d h1 h2) ih
 | pt cells g o vals hg hcell _ ih =>
  exact .pt cells g o vals (hF g hg) (fun j d h1 => by rw [World.cell?_of_block (a := ⟨g, o + j, none⟩) (hw g hg)]; exact hcell j d h1) ih
 | nilp => exact .nilp
 | nili => exact .nili
 | ifc t d v _ ih => exact .ifc t d v ih
 | fn f caps vs hl _ ih => exact .fn f caps vs hl ih
 | nilf => exact .nilf
 | agg l vs hl _ ih => exact .agg l vs hl ih
 | tup l vs hl _ ih => exact .tup l vs hl ih
theorem Rep.single {F : Nat->Prop} {w : World} {d : DV} {v : Value} (h : Rep F w d v) (hv : v.oneCell' = true) : d.single = true := by
 cases h <;> first | rfl | simp [Value.oneCell'] at hv
theorem Rep.one {F : Nat->Prop} {w : World} {d : DV} {v : Value} (h : Rep F w d v) (hd : d.single = true) : v.oneCell' = true := by
 cases h <;> first | rfl | simp [DV.single] at hd
def DV.scalar : DV->Bool
 | .int .. | .bool _ | .str _ | .nils _ | .nilp | .nili | .nilf => true
 | _ => false
theorem Rep.scalar {F F' : Nat->Prop} {w w' : World} {d : DV} {v : Value} (h : Rep F w d v) (hd : d.scalar = true) : Rep F' w' d v := by
 cases h <;> first | (simp [DV.scalar] at hd; done) | constructor
abbrev Id := List Nat
inductive JI where
 | none
 | live (g : Option Nat) (own : Bool) (s cap : Nat)
 | dead
inductive AV where
 | val (d : DV)
 | box (id : Id) (o : Nat)
 | elt (id : Id) (i o : Nat)
 | row (id : Id) (s o len : Nat)
 | agg (l : List AV)
 | tup (l : List AV)
 | clo (f : FuncId) (caps : List AV)
 | may (c : Bool) (x : AV)
 | junk
 deriving Inhabited
inductive VRel (J : Id->JI) (F : Nat->Prop) (w : World) : AV->Value->Prop
 | val (d : DV) (v : Value) (h : Rep F w d v) : VRel J F w (.val d) v
 | box (id : Id) (o g : Nat) (own : Bool) (s cap : Nat) (h : J id = .live (some g) own s cap) : VRel J F w (.box id o) (.pointer (some ⟨g, o, none⟩))
 | boxDead (id : Id) (o : Nat) (p : Addr) (h : J id = .dead) : VRel J F w (.box id o) (.pointer (some p))
 | elt (id : Id) (i o g : Nat) (own : Bool) (s cap : Nat) (h : J id = .live (some g) own s cap) : VRel J F w (.elt id i o) (.pointer (some ⟨g, i * s + o, none⟩))
 | eltDead (id : Id) (i o : Nat) (p : Addr) (h : J id = .dead) : VRel J F w (.elt id i o) (.pointer (some p))
 | row (id : Id) (o len g : Nat) (own : Bool) (s cap : Nat) (h : J id = .live (some g) own s cap) (hc : o + len<=cap) :
   VRel J F w (.row id s o len) (.slice (some ⟨g, o * s, none⟩) len (cap - o))
 | rowNil (id : Id) (own : Bool) (s cap : Nat) (a : Option Addr) (h : J id = .live none own s cap) : VRel J F w (.row id s 0 0) (.slice a 0 0)
 | rowEnd (id : Id) (o g : Nat) (own : Bool) (s cap : Nat) (h : J id = .live (some g) own s cap) (ho : o ≠ 0) (a : Option Addr) (c : Nat) : VRel J F w (.row id s o 0) (.slice a 0 c)
 | rowDead (id : Id) (s o len : Nat) (p : Option Addr) (c : Nat) (h : J id = .dead) (hc : len<=c) (hp : len ≠ 0->p ≠ none) : VRel J F w (.row id s o len) (.slice p len c)
 | agg (l : List AV) (vs : List Value) (hl : vs.length = l.length) (h : ∀ (j : Nat) d v, l[j]? = some d->vs[j]? = some v->VRel J F w d v) : VRel J F w (.agg l) (.agg vs.toArray)
 | tup (l : List AV) (vs : List Value) (hl : vs.length = l.length) (h : ∀ (j : Nat) d v, l[j]? = some d->vs[j]? = some v->VRel J F w d v) : VRel J F w (.tup l) (.tuple vs.toArray)
 | clo (f : FuncId) (caps : List AV) (vs : List Value) (hl : vs.length = caps.length) (h : ∀ (j : Nat) d v, caps[j]? = some d->vs[j]? = some v->VRel J F w d v) :
   VRel J F w (.clo f caps) (.func (.func f) #[] vs.toArray)
 | may (c : Bool) (x : AV) (v : Value) (h : c = true->VRel J F w x v) (h' : c = false->v = undef) : VRel J F w (.may c x) v
 | junk (v : Value) : VRel J F w .junk v
def JI.le : JI->JI->Prop
 | .none, _ => True
 | .dead, .dead => True
 | .live g own s cap, .live g' own' s' cap' => g' = g/\s' = s/\cap' = cap/\(own' = true->own = true)
 | .live .., .dead => True
 | _, _ => False
theorem JI.le_refl (x : JI) : x.le x := by cases x <;> simp [JI.le]
theorem JI.le_trans {x y z : JI} (h : x.le y) (h' : y.le z) : x.le z := by
 cases x <;> cases y <;> cases z <;> simp_all [JI.le]
theorem JI.le_live {J J' : JI} {g : Option Nat} {own : Bool} {s cap : Nat} (h : J.le J') (e : J = .live g own s cap) : J' = .dead\/∃ own', J' = .live g own' s cap := by
 subst e;cases J' <;> simp_all [JI.le]
theorem JI.le_dead {J J' : JI} (h : J.le J') (e : J = .dead) : J' = .dead := by
 subst e;cases J' <;> simp_all [JI.le]
theorem VRel.mono {J J' : Id->JI} {F F' : Nat->Prop} {w w' : World} {x : AV} {v : Value} (h : VRel J F w x v) (hJ : ∀ id, (J id).le (J' id)) (hF : ∀ g, F g->F' g) (hw : ∀ g, F g->w'.heap[g]? = w.heap[g]?) :
  VRel J' F' w' x v := by
 induction h with
 | val d v h => exact .val d v (h.mono hF hw)
 | box id o g own s cap h => exact (JI.le_live (hJ id) h).elim (fun h => .boxDead _ _ _ h) (fun ⟨_, h⟩ => .box _ _ _ _ _ _ h)
 | boxDead id o p h => exact .boxDead _ _ _ (JI.le_dead (hJ id) h)
 | elt id i o g own s cap h => exact (JI.le_live (hJ id) h).elim (fun h => .eltDead _ _ _ _ h) (fun ⟨_, h⟩ => .elt _ _ _ _ _ _ _ h)
 | eltDead id i o p h => exact .eltDead _ _ _ _ (JI.le_dead (hJ id) h)
 | row id o len g own s cap h hc => exact (JI.le_live (hJ id) h).elim (fun h => .rowDead _ _ _ _ _ _ h (by omega) (by simp)) (fun ⟨_, h⟩ => .row _ _ _ _ _ _ _ h hc)
 | rowNil id own s cap a h => exact (JI.le_live (hJ id) h).elim (fun h => .rowDead _ _ _ _ _ _ h (Nat.le_refl _) (by simp)) (fun ⟨_, h⟩ => .rowNil _ _ _ _ _ h)
 | rowEnd id o g own s cap h ho a c => exact (JI.le_live (hJ id) h).elim (fun h => .rowDead _ _ _ _ _ _ h (Nat.zero_le _) (by simp)) (fun ⟨_, h⟩ => .rowEnd _ _ _ _ _ _ h ho _ _)
 | rowDead id s o len p c h hc hp => exact .rowDead _ _ _ _ _ _ (JI.le_dead (hJ id) h) hc hp
 | agg l vs hl _ ih => exact .agg l vs hl ih
 | tup l vs hl _ ih => exact .tup l vs hl ih
 | clo f caps vs hl _ ih => exact .clo f caps vs hl ih
 | may c x v _ h' ih => exact .may c x v ih h'
 | junk v => exact .junk v
inductive Blk where
 | box (cells : List AV)
 | row (s : Nat) (elems : List (List DV))
 | fbox (cells : List DV)
 | frow (s : Nat) (elems : List (List DV))
 | fns (s : Nat) (elems : List (List AV))
 | dead
abbrev Hp := Id->Option Blk
inductive BRel (J : Id->JI) (F : Nat->Prop) (w : World) (id : Id) : Blk->Prop
 | box (cells : List AV) (g s cap : Nat) (cur : Array Value) (e : TypeId) (h : J id = .live (some g) true s cap) (hg : w.heap[g]? = some (.cells cur e (0, 0))) (hs : cur.size = cells.length)
   (hc : ∀ (j : Nat) x v, cells[j]? = some x->cur[j]? = some v->VRel J F w x v) (h1 : ∀ (j : Nat) v, cur[j]? = some v->v.oneCell' = true) (h2 : s = 1/\cap = cells.length) : BRel J F w id (.box cells)
 | row (s : Nat) (elems : List (List DV)) (g cap : Nat) (cur : Array Value) (e : TypeId) (h : J id = .live (some g) true s cap) (hg : w.heap[g]? = some (.cells cur e (0, 0))) (hs : cur.size = cap * s)
   (hn : elems.length<=cap) (hm : cap<=maxLen) (he : ∀ x ∈ elems, x.length = s) (hc : ∀ (i j : Nat) x d v, elems[i]? = some x->x[j]? = some d->cur[i * s + j]? = some v->Rep F w d v)
   (h1 : ∀ (j : Nat) v, cur[j]? = some v->v.oneCell' = true) : BRel J F w id (.row s elems)
 | rowNil (s cap : Nat) (h : J id = .live none true s cap) : BRel J F w id (.row s [])
 | fbox (cells : List DV) (g : Nat) (own : Bool) (s cap : Nat) (vals : Nat->Value) (h : J id = .live (some g) own s cap) (ho : own = false) (hF : F g) (hcell : ∀ (j : Nat) d, cells[j]? = some d->w.cell? ⟨g, j, none⟩ = some (vals j))
   (hrep : ∀ (j : Nat) d, cells[j]? = some d->Rep F w d (vals j)) (h2 : s = 1/\cap = cells.length) : BRel J F w id (.fbox cells)
 | frow (s : Nat) (elems : List (List DV)) (g : Nat) (own : Bool) (cap : Nat) (vals : Nat->Nat->Value) (h : J id = .live (some g) own s cap) (ho : own = false) (hF : F g) (he : ∀ x ∈ elems, x.length = s) (h1 : ∀ x ∈ elems, ∀ d ∈ x, DV.single d = true) (hn : elems.length<=cap)
   (hcell : ∀ i j x d, elems[i]? = some x->x[j]? = some d->w.cell? ⟨g, i * s + j, none⟩ = some (vals i j)) (hrep : ∀ i j x d, elems[i]? = some x->x[j]? = some d->Rep F w d (vals i j)) : BRel J F w id (.frow s elems)
 | frowNil (s cap : Nat) (own : Bool) (h : J id = .live none own s cap) : BRel J F w id (.frow s [])
 | fns (s : Nat) (elems : List (List AV)) (g cap : Nat) (cur : Array Value) (e : TypeId) (h : J id = .live (some g) true s cap) (hg : w.heap[g]? = some (.cells cur e (0, 0))) (hs : cur.size = cap * s)
   (hn : elems.length<=cap) (he : ∀ x ∈ elems, x.length = s) (hc : ∀ (i j : Nat) x y v, elems[i]? = some x->x[j]? = some y->cur[i * s + j]? = some v->VRel J F w y v)
   (h1 : ∀ (j : Nat) v, cur[j]? = some v->v.oneCell' = true) : BRel J F w id (.fns s elems)
 | dead (h : J id = .dead) : BRel J F w id .dead
inductive Opd where
 | t (n : Nat)
 | c (d : DV)
 deriving Inhabited
inductive POp where
 | mv (x : Opd)
 | pick (c a b : Opd)
 | bin (op : BinOp) (x y : Opd)
 | eqs (ks : List Nat) (neg : Bool) (x y : Opd)
 | eqb (neg : Bool) (x y : Opd)
 | eqn (neg : Bool) (x : Opd)
 | un (op : UnOp) (x : Opd)
 | conv (k : IntKind) (x : Opd)
 | build (zero : List DV) (parts : List (Nat × Nat × Opd))
 | field (o n : Nat) (agg : Bool) (x : Opd)
 | idxS (x i : Opd)
 | idxA (len s : Nat) (agg : Bool) (x i : Opd)
 | slS (x : Opd) (lo hi : Option Opd)
 | foff (o : Nat) (x : Opd)
 | aoff (len s : Nat) (x i : Opd)
 | soff (s : Nat) (x i : Opd)
 | slice (s : Nat) (x : Opd) (lo hi mx : Option Opd)
 | chk (x : Opd)
 | ext (x : Opd) (i : Nat)
 | len (x : Opd)
 | lenS (x : Opd)
 | lenc (n : Nat)
 | mnx (gt : Bool) (x : Opd) (l : List Opd)
 | mkf (f : FuncId) (caps : List Opd)
 | s2a (n : Nat) (x : Opd)
inductive ROp where
 | load (n : Nat) (agg : Bool) (x : Opd)
 | b2s (x : Opd)
 | s2b (x : Opd)
 | sla (n : Nat) (x : Opd) (lo hi : Option Opd)
 | call (f : FuncId) (args : List Opd)
 | callv (x : Opd) (args : List Opd)
inductive AlOp where
 | alloc (zero : List DV)
 | bx (x : Opd)
 | bsl (s len : Nat) (zero : List DV) (parts : List (Nat × Opd))
 | bsf (s len : Nat) (zero : List DV) (parts : List (Nat × Opd))
 | mks (s bytes : Nat) (zero : List DV) (len cap : Opd)
inductive LibK where
 | clone (s bytes : Nat)
 | ins (s bytes : Nat)
 | del (s : Nat)
 | grow (s bytes : Nat)
structure Rgn where
 L : List (Nat × Nat)
 EL : List Nat
 AL : List Nat
 needs : List (Nat × Nat)
 S : List FuncId
 LB : List (FuncId × LibK)
inductive WOp where
 | store (n : Nat) (x v : Opd)
 | app (s bytes : Nat) (str : Bool) (x y : Opd)
 | clr (s : Nat) (zero : List DV) (x : Opd)
 | s2s (x : Opd)
inductive AOp where
 | p (o : POp)
 | r (o : ROp)
 | a (o : AlOp)
 | w (o : WOp)
structure AIns where
 dst : Option Nat
 op : AOp
 guard : Option (Nat × Bool)
inductive ACode where
 | skip
 | region (ops : List AIns)
 | draw (ops : List AIns) (cut : Option Nat)
 | drawA (ops : List AIns) (r r2 : Rgn) (cut : Option Nat)
 | bad
 | seq (a b : ACode)
 | cond (c : Opd) (a b : ACode)
 | block (id : Nat) (body : ACode)
 | loop (body : ACode)
 | exit (id : Nat)
 | ret
def AV.cells : AV->Option (List AV)
 | .agg l => some l
 | .val (.agg l) => some (l.map .val)
 | .val (.tup _) => none
 | .val d => some [.val d]
 | .box id o => some [.box id o]
 | .elt id i o => some [.elt id i o]
 | .row id s o n => some [.row id s o n]
 | .clo f l => some [.clo f l]
 | _ => none
def qw7 (agg : Bool) (l : List AV) : Option AV :=
 if agg then some (.agg l) else match l with
  | [x] => some x
  | _ => none
def ql8 (agg : Bool) (l : List DV) : Option AV :=
 if agg then some (.val (.agg l)) else match l with
  | [x] => some (.val x)
  | _ => none
def splice {α : Type} (l : List α) (o : Nat) (xs : List α) : List α := l.take o ++ xs ++ l.drop (o + xs.length)
def AV.num : AV->Option Int
 | .val (.int _ n) => some n
 | _ => none
def qsE (op : BinOp) : DV->DV->Option DV
 | .int k a, .int k' b =>
  match op with
  | .shl => if 0<=b then some (.int k (k.wrap (a * 2 ^ (min b.toNat k.bits)))) else none
  | .shr => if 0<=b then some (.int k (a.fdiv (2 ^ (min b.toNat k.bits)))) else none
  | _ =>
   if k ≠ k' then none else
   match op with
   | .add => some (.int k (k.wrap (a + b)))
   | .sub => some (.int k (k.wrap (a - b)))
   | .mul => some (.int k (k.wrap (a * b)))
   | .quo => if b = 0 then none else some (.int k (k.wrap (a.tdiv b)))
   | .rem => if b = 0 then none else some (.int k (a.tmod b))
   | .and => some (.int k (bits .and k a b))
   | .or => some (.int k (bits .or k a b))
   | .xor => some (.int k (bits .xor k a b))
   | .andNot => some (.int k (bits .andNot k a b))
   | .eql => some (.bool (a == b))
   | .neq => some (.bool (a != b))
   | .lss => some (.bool (decide (a < b)))
   | .leq => some (.bool (decide (a<=b)))
   | .gtr => some (.bool (decide (a > b)))
   | .geq => some (.bool (decide (a ≥ b)))
   | _ => none
 | .str a, .str b =>
  match op with
  | .add => if a.size + b.size<=9223372036854775807 then some (.str (a ++ b)) else none
  | .eql => some (.bool (decide (a = b)))
  | .neq => some (.bool (!decide (a = b)))
  | .lss => some (.bool (Op.bytesLess a.toList b.toList))
  | .leq => some (.bool (Op.bytesLess a.toList b.toList || decide (a = b)))
  | .gtr => some (.bool (!(Op.bytesLess a.toList b.toList || decide (a = b))))
  | .geq => some (.bool (!(Op.bytesLess a.toList b.toList)))
  | _ => none
 | _, _ => none
def unD : UnOp->DV->Option DV
 | .not, .bool b => some (.bool (!b))
 | .neg, .int k n => some (.int k (k.wrap (0 - n)))
 | .xor, .int k n => some (.int k (bits .xor k (if k.signed then -1 else k.max) n))
 | _, _ => none
def eqD : Nat->DV->DV->Option Bool
 | 1, .int k a, .int k' b => if k = k' then some (a == b) else none
 | 0, .bool a, .bool b => some (a == b)
 | 2, .str a, .str b => some (decide (a = b))
 | _, _, _ => none
def qnV : List Nat->List DV->List DV->Option Bool
 | [], [], [] => some true
 | k :: ks, a :: l, b :: m => match eqD k a b, qnV ks l m with
  | some x, some y => some (x && y)
  | _, _ => none
 | _, _, _ => none
def qbH : List AV->Option (List DV)
 | [] => some []
 | .val d :: l => (qbH l).map (d :: ·)
 | _ => none
def AV.aggD : AV->Option (List DV)
 | .agg l => qbH l
 | .val (.agg l) => some l
 | _ => none
def qo4 (ρ : Opd->AV) (d : Int) : Option Opd->Option Int
 | some m => (ρ m).num
 | none => some d
def qm6 (n : Nat) (ρ : Opd->AV) (lo hi mx : Option Opd) : Option (Nat × Nat × Nat) :=
 match qo4 ρ n mx, qo4 ρ n hi, qo4 ρ 0 lo with
 | some m, some h, some l => if 0<=l/\l<=h/\h<=m/\m<=(n : Int) then some (l.toNat, h.toNat, m.toNat) else none
 | _, _, _ => none
def qqE (t : Bool) : AV->AV->AV
 | .val (.bool a), .val (.bool b) => .val (.bool (bif t then a else b))
 | x, y => bif t then x else y
def unw (g : Bool) : AV->AV
 | .may c x => if (!g || c) = true then x else .junk
 | x => x
def qjZ (gt : Bool) : Int->List AV->Option Int
 | a, [] => some a
 | a, .val (.int _ b) :: l => qjZ gt (if gt then (if b > a then b else a) else (if b < a then b else a)) l
 | _, _ => none
def parts (ρ : Opd->AV) : List AV->List (Nat × Nat × Opd)->Option (List AV)
 | cs, [] => some cs
 | cs, (o, n, x) :: l => match (ρ x).cells with
  | some xs => if xs.length = n/\o + n<=cs.length then parts ρ (splice cs o xs) l else none
  | none => none
def AV.moved (n : Nat) : AV->Option AV
 | .box id i => some (.box id (i + n))
 | .elt id i j => some (.elt id i (j + n))
 | .val (.pt cs) => some (.val (.pt (cs.drop n)))
 | _ => none
def AV.part (o n : Nat) (agg : Bool) : AV->Option AV
 | .agg l => if o + n<=l.length then qw7 agg ((l.drop o).take n) else none
 | .val (.agg l) => if o + n<=l.length then ql8 agg ((l.drop o).take n) else none
 | _ => none
def qe2 (ρ : Opd->AV) (ρp : Bool->Opd->AV) : POp->Option AV
 | .mv x => some (ρ x)
 | .pick c a b => match ρ c with
  | .val (.bool t) => some (qqE t (ρp t a) (ρp (!t) b))
  | _ => none
 | .bin op x y => match ρ x, ρ y with
  | .val a, .val b => (qsE op a b).map .val
  | _, _ => none
 | .eqs ks neg x y => match (ρ x).aggD, (ρ y).aggD with
  | some a, some b => (qnV ks a b).map fun t => .val (.bool (if neg then !t else t))
  | _, _ => none
 | .eqb neg x y => match ρ x, ρ y with
  | .val (.bool a), .val (.bool b) => some (.val (.bool (if neg then a != b else a == b)))
  | _, _ => none
 | .eqn neg x => match ρ x with
  | .val .nilp => some (.val (.bool !neg))
  | .val (.pt _) | .box _ _ | .elt _ _ _ => some (.val (.bool neg))
  | _ => none
 | .un op x => match ρ x with
  | .val d => (unD op d).map .val
  | _ => none
 | .conv k x => match ρ x with
  | .val (.int _ n) => some (.val (.int k (k.wrap n)))
  | _ => none
 | .build zero ps => (parts ρ (zero.map .val) ps).map .agg
 | .field o n agg x => (ρ x).part o n agg
 | .idxS x i => match ρ x, (ρ i).num with
  | .val (.str s), some n => if 0<=n/\n < (s.size : Int) then some (.val (.int .u8 (s.data.toList.getD n.toNat 0).toNat)) else none
  | _, _ => none
 | .idxA len s agg x i => match (ρ i).num with
  | some n => if 0<=n/\n < (len : Int) then (ρ x).part (n.toNat * s) s agg else none
  | _ => none
 | .slS x lo hi => match ρ x with
  | .val (.str s) => (qm6 s.size ρ lo hi none).map fun (l, h, _) => .val (.str (s.extract l h))
  | _ => none
 | .foff o x => (ρ x).moved o
 | .aoff len s x i => match (ρ i).num with
  | some n => if 0<=n/\n < (len : Int) then (ρ x).moved (n.toNat * s) else none
  | _ => none
 | .soff s x i => match (ρ i).num with
  | some n => match ρ x with
   | .val (.sl s' l) => if s' = s/\0<=n then (match l[n.toNat]? with | some e => some (.val (.pt e)) | none => none) else none
   | .row id s' o len => if s' = s/\0<=n/\n < (len : Int) then some (.elt id (o + n.toNat) 0) else none
   | _ => none
  | _ => none
 | .slice s x lo hi mx => match ρ x with
  | .val (.sl s' l) => if s' = s\/l = [] then (qm6 l.length ρ lo hi mx).map fun (a, h, m) => if mx.isSome/\a = m then .val (.nils s) else .val (.sl s ((l.take h).drop a)) else none
  | .val (.nils s') => (qm6 0 ρ lo hi mx).map fun _ => .val (.nils s')
  | .row id s' o n => if mx.isSome\/s' ≠ s then none else (qm6 n ρ lo hi none).map fun (a, h, _) => .row id s (o + a) (h - a)
  | _ => none
 | .chk x => match ρ x with
  | .val (.pt cs) => some (.val (.pt cs))
  | .box id o => some (.box id o)
  | .elt id i o => some (.elt id i o)
  | .val (.fn f l) => some (.val (.fn f l))
  | .clo f l => some (.clo f l)
  | _ => none
 | .ext x i => match ρ x with
  | .tup l => l[i]?
  | .val (.tup l) => (l[i]?).map .val
  | _ => none
 | .len x => match ρ x with
  | .val (.sl _ l) => some (.val (.int .i64 l.length))
  | .val (.nils _) => some (.val (.int .i64 0))
  | .row _ _ _ n => some (.val (.int .i64 n))
  | _ => none
 | .lenS x => match ρ x with
  | .val (.str s) => some (.val (.int .i64 s.size))
  | _ => none
 | .lenc n => some (.val (.int .i64 n))
 | .mnx gt x l => match ρ x with
  | .val (.int k a) => (qjZ gt a (l.map ρ)).map fun n => .val (.int k n)
  | _ => none
 | .mkf f caps => some (.clo f (caps.map ρ))
 | .s2a n x => match ρ x with
  | .val (.sl s l) => if s = 1/\n<=l.length/\0 < n then some (.val (.pt (l.take n).flatten)) else none
  | _ => none
def lit1 : Value->Option DV
 | .bool b => some (.bool b)
 | .int k n => some (.int k n)
 | .string s => some (.str s)
 | .slice none 0 0 => some (.nils 0)
 | .pointer none => some .nilp
 | .nilIface => some .nili
 | .nilFunc => some .nilf
 | _ => none
def lits : List Value->Option (List DV)
 | [] => some []
 | v :: l => match lit1 v, lits l with
  | some d, some ds => some (d :: ds)
  | _, _ => none
def lit : Value->Option DV
 | .agg cs => (lits cs.toList).map .agg
 | v => lit1 v
theorem qyS {F : Nat->Prop} {w : World} {v : Value} {d : DV} (h : lit1 v = some d) : Rep F w d v := by
 unfold lit1 at h;split at h <;> first | (cases h; done) | (cases h; constructor)
theorem qu6 {l : List Value} {ds : List DV} (h : lits l = some ds) : ds.length = l.length := by
 induction l generalizing ds with
 | nil => simp [lits] at h; subst h; rfl
 | cons v l ih =>
  simp only [lits] at h;split at h
  ·cases h; rename_i h2; simp [ih h2]
  ·cases h
theorem qyT {F : Nat->Prop} {w : World} {l : List Value} {ds : List DV} (h : lits l = some ds) : ∀ (j : Nat) d v, ds[j]? = some d->l[j]? = some v->Rep F w d v := by
 induction l generalizing ds with
 | nil => intro j d v _ h2; simp at h2
 | cons v l ih =>
  simp only [lits] at h;split at h
  ·cases h
   rename_i h1 h2;intro j d u hd hu;cases j with
   | zero => simp at hd hu; subst hd; subst hu; exact qyS h1
   | succ j => simp at hd hu; exact ih h2 j d u hd hu
  ·cases h
theorem lit_rep {F : Nat->Prop} {w : World} {v : Value} {d : DV} (h : lit v = some d) : Rep F w d v := by
 unfold lit at h;split at h
 ·rename_i cs
  simp only [Option.map_eq_some_iff] at h;obtain ⟨ds, h, rfl⟩ := h;have := Rep.agg (F := F) (w := w) ds cs.toList (qu6 h).symm (qyT h);simpa using this
 ·exact qyS h
def qo5 : Operand->Option Opd
 | .tmp t => some (.t t)
 | .const v => (lit v).map .c
 | .func f => some (.c (.fn f []))
 | .global _ => none
def qnM : List Operand->Option (List Opd)
 | [] => some []
 | x :: l => match qo5 x, qnM l with
  | some y, some m => some (y :: m)
  | _, _ => none
def qiT : Option Operand->Option (Option Opd)
 | none => some none
 | some x => (qo5 x).map some
structure Env where
 n : Nat
 l : List (Nat × AV)
def look : List (Nat × AV)->Nat->AV
 | [], _ => .junk
 | (k, x) :: l, t => if k = t then x else look l t
def evE (env : Env) : Opd->AV
 | .t n => look env.l n
 | .c d => .val d
def qcL (J : Id->JI) (F : Nat->Prop) (w : World) (env : Env) (tmps : Array Value) : Prop :=
 env.n = tmps.size/\(∀ t v, tmps[t]? = some v->VRel J F w (look env.l t) v)/\∀ t, env.n<=t->look env.l t = .junk
section
variable {P : Program} {J : Id->JI} {F : Nat->Prop} {w : World} {env : Env} {a : Act}
theorem qcL.ev (h : qcL J F w env a.tmps) {x : Operand} {y : Opd} (hc : qo5 x = some y) : VRel J F w (evE env y) (a.eval x) := by
 cases x with
 | tmp t =>
  simp only [qo5, Option.some.injEq] at hc;subst hc;simp only [evE, Act.eval];by_cases ht : t < a.tmps.size
  ·have h2 : a.tmps[t]? = some a.tmps[t] := Array.getElem?_eq_getElem ht
   have := h.2.1 t _ h2;simpa [Array.getD, ht] using this
  ·rw [h.2.2 t (h.1 ▸ Nat.le_of_not_lt ht)]
   exact .junk _
 | const v =>
  simp only [qo5, Option.map_eq_some_iff] at hc;obtain ⟨d, hd, rfl⟩ := hc;exact .val _ _ (lit_rep hd)
 | func f =>
  simp only [qo5, Option.some.injEq] at hc;subst hc;have := VRel.val (J := J) (F := F) (w := w) _ _ (Rep.fn f [] [] rfl (by simp));exact this
 | global g => simp [qo5] at hc
def qz7 (J : Id->JI) (F : Nat->Prop) (w : World) (ρ : Opd->AV) (a : Act) : Prop := (∀ x y, qo5 x = some y->VRel J F w (ρ y) (a.eval x))/\∀ d, ρ (.c d) = .val d
theorem qz7.ev {ρ : Opd->AV} (h : qz7 J F w ρ a) {x : Operand} {y : Opd} (hc : qo5 x = some y) : VRel J F w (ρ y) (a.eval x) := h.1 x y hc
theorem VRel.inv_val {d : DV} {v : Value} (h : VRel J F w (.val d) v) : Rep F w d v := by cases h; assumption
theorem VRel.int {k : IntKind} {n : Int} {v : Value} (h : VRel J F w (.val (.int k n)) v) : v = .int k n := by cases h.inv_val; rfl
theorem VRel.bool {b : Bool} {v : Value} (h : VRel J F w (.val (.bool b)) v) : v = .bool b := by cases h.inv_val; rfl
theorem VRel.str {s : ByteArray} {v : Value} (h : VRel J F w (.val (.str s)) v) : v = .string s := by cases h.inv_val; rfl
theorem VRel.num {x : AV} {n : Int} {v : Value} (h : VRel J F w x v) (hn : x.num = some n) : ∃ k, v = .int k n := by
 unfold AV.num at hn;split at hn
 ·cases hn; exact ⟨_, h.int⟩
 ·cases hn
end
end Go.AI
namespace Go.AI
variable {P : Program} {J : Id->JI} {F : Nat->Prop} {w : World}
theorem qz8 (op : BinOp) (t : TypeId) (x y : Operand) {u v : Value} (h : ∀ c d, ¬ (u = .agg c/\v = .agg d)) (h' : ¬ (u = .nilIface/\v = .nilIface)) : (eqGuard op t x y u v).run P w = .ok () w := by
 cases u <;> cases v <;> first
  | (cases op <;> rfl)
  | exact absurd ⟨rfl, rfl⟩ h'
  | exact absurd ⟨rfl, rfl⟩ (h _ _)
theorem qbI (a b : ByteArray) : (a.toList == b.toList) = decide (a = b) := by
 rw [← beq_toListBytes];by_cases h : a = b
 ·subst h
  have : (a == a) = true := by
   rw [beq_toListBytes]; exact beq_self_eq_true _
  simpa using this
 ·simp only [h, decide_false]
  rw [beq_toListBytes, beq_eq_false_iff_ne];intro e
  apply h
  rw [ByteArray.toList_eq, ByteArray.toList_eq] at e;obtain ⟨⟨x⟩⟩ := a;obtain ⟨⟨y⟩⟩ := b;simp only at e;subst e;rfl
theorem zl0 {op : BinOp} {t : TypeId} {x y r : DV} {u v : Value} (h1 : Rep F w x u) (h2 : Rep F w y v) (hb : qsE op x y = some r) :
  (∀ X Y, (eqGuard op t X Y u v).run P w = .ok () w)/\∃ z, (binOp op t u v).run P w = .ok z w/\Rep F w r z := by
 cases h1 with
 | int k a =>
  cases h2 with
  | int k' b =>
   refine ⟨fun X Y => qz8 op t X Y (by simp) (by simp), ?_⟩;simp only [qsE] at hb;cases op <;> simp only [] at hb
   case shl =>
    split at hb
    ·cases hb
     rename_i hb0;refine ⟨_, ?_, .int _ _⟩;simp only [binOp, Op.shift];rw [if_neg (by omega)];rfl
    ·cases hb
   case shr =>
    split at hb
    ·cases hb
     rename_i hb0;refine ⟨_, ?_, .int _ _⟩;simp only [binOp, Op.shift];rw [if_neg (by omega)];rfl
    ·cases hb
   all_goals
    split at hb
    ·cases hb
    ·rename_i hk
     have hk' : k = k' := Classical.not_not.1 hk;subst hk'
     first
      | (split at hb <;> cases hb; rename_i hb0; refine ⟨_, ?_, by constructor⟩; simp [binOp, Op.intDiv, hb0]; done)
      | (cases hb; refine ⟨_, ?_, by constructor⟩; simp [binOp, Op.intArith, Op.intCmp, bits, Op.intBits]; done)
      | (cases hb; done)
  | _ => simp [qsE] at hb
 | str a =>
  cases h2 with
  | str b =>
   refine ⟨fun X Y => qz8 op t X Y (by simp) (by simp), ?_⟩;simp only [qsE] at hb;cases op <;> simp only [] at hb
   case add =>
    split at hb
    ·cases hb
     rename_i hs;refine ⟨_, ?_, .str _⟩;have : IntKind.i64.max = 9223372036854775807 := by decide
     simp only [binOp, Op.stringOp, this];rw [if_neg (by omega)];rfl
    ·cases hb
   all_goals first
    | (cases hb; refine ⟨_, ?_, by constructor⟩; simp [binOp, Op.stringOp, ← qbI]; done)
    | (cases hb; done)
  | _ => simp [qsE] at hb
 | _ => simp [qsE] at hb
theorem un_sound {op : UnOp} {d r : DV} {v : Value} (h : Rep F w d v) (hs : unD op d = some r) : ∃ z, (Op.unary op v).run P w = .ok z w/\Rep F w r z := by
 cases h <;> cases op <;> first
  | (cases hs; done)
  | (cases hs; exact ⟨_, rfl, by constructor⟩)
theorem ze5 {src dst : TypeId} {k k' : IntKind} {n : Int} {X : TypeDesc} (hs : P.underlying src = some X) (hd : P.underlying dst = some (.int k)) :
  (convert src dst (.int k' n)).run P w = .ok (.int k (k.wrap n)) w := by
 simp [convert, run_underlying hs, run_underlying hd, Conv.intToInt]
def qs3 (P : Program) : Nat->TypeId->Option (List Nat)
 | 0, _ => none
 | d + 1, t => match P.underlying t with
  | some .bool => if P.cellsOf t = 1 then some [0] else none
  | some (.int _) => if P.cellsOf t = 1 then some [1] else none
  | some .string => if P.cellsOf t = 1 then some [2] else none
  | some (.struct fs) => if P.stoodInHeld t then none else
   match fs.toList.foldl (fun (acc : Option (List Nat)) f => acc.bind fun l => if f.name != "_" && f.offset == l.length then (qs3 P d f.type).map (l ++ ·) else none) (some []) with
   | some l => if l.length = P.cellsOf t then some l else none
   | none => none
  | some (.array n e) => match qs3 P d e with
   | some l => if P.cellsOf t = n * P.cellsOf e then some (List.replicate n l).flatten else none
   | none => none
  | _ => none
def qg0 (F : Nat->Prop) (w : World) (ds : List DV) (vs : List Value) : Prop := vs.length = ds.length/\∀ (j : Nat) d v, ds[j]? = some d->vs[j]? = some v->Rep F w d v
theorem qkA {k l : List Nat} {a b c d : List DV} {r : Bool} (hk : k.length = a.length) (hl : a.length = b.length) (h : qnV (k ++ l) (a ++ c) (b ++ d) = some r) :
  ∃ x y, qnV k a b = some x/\qnV l c d = some y/\r = (x && y) := by
 induction a generalizing k b r with
 | nil =>
  have : b = [] := List.eq_nil_of_length_eq_zero hl.symm;subst this;have : k = [] := List.eq_nil_of_length_eq_zero hk;subst this;exact ⟨true, r, rfl, h, by simp⟩
 | cons x a ih =>
  cases b with
  | nil => simp at hl
  | cons y b =>
   cases k with
   | nil => simp at hk
   | cons q k =>
    simp only [List.cons_append, qnV] at h;split at h
    ·cases h
     rename_i p q h1 h2;obtain ⟨u, v, hu, hv, rfl⟩ := ih (by simpa using hk) (by simpa using hl) h2;exact ⟨p && u, v, by simp only [qnV, h1, hu], hv, by rw [Bool.and_assoc]⟩
    ·cases h
theorem qwC {k : List Nat} {a b : List DV} {r : Bool} (h : qnV k a b = some r) : k.length = a.length/\a.length = b.length := by
 induction a generalizing k b r with
 | nil => cases b <;> cases k <;> simp_all [qnV]
 | cons x a ih =>
  cases b with
  | nil => cases k <;> simp [qnV] at h
  | cons y b =>
   cases k with
   | nil => simp [qnV] at h
   | cons q k =>
    simp only [qnV] at h;split at h
    ·rename_i h2; have := ih h2; simp [this.1, this.2]
    ·cases h
theorem qj7 {t : TypeId} {d : TypeDesc} (h : P.underlying t = some d) : ∃ i, P.info? t = some i := by
 unfold Program.underlying at h;split at h
 ·rename_i h1; exact ⟨_, h1⟩
 ·rename_i h1; exact ⟨_, h1⟩
 ·cases h
theorem qd0 {t : TypeId} {i : TypeInfo} (h : P.info? t = some i) : (sizeOf t).run P w = .ok i.size w := by
 simp [sizeOf, typeInfo, h]
theorem qf1 {t : TypeId} {i : TypeInfo} (h : P.info? t = some i) : P.cellsOf t = i.size := by simp [Program.cellsOf, h]
def qg1 (P : Program) (t : TypeId) : Bool := match P.underlying t with
 | some (.struct _) | some (.array _ _) => true
 | _ => false
theorem qsF {t : TypeId} {d : TypeDesc} (h : P.underlying t = some d) : (isAgg t).run P w = .ok (qg1 P t) w := by
 unfold isAgg qg1;rw [Sem.run_bind, run_underlying h, h];cases d <;> rfl
theorem qyU {t : TypeId} {d : TypeDesc} (h : P.underlying t = some d) (cs : Array Value) (o : Nat) : (part t cs o).run P w =
  if qg1 P t = true then .ok (.agg (cs.extract o (o + P.cellsOf t))) w else (match cs[o]? with | some v => .ok v w | none => .halt (.stuck "part: no such cell") w) := by
 obtain ⟨i, hi⟩ := qj7 h;unfold part;rw [Sem.run_bind, qsF h, Result.andThen_ok];cases qg1 P t
 ·simp only [Bool.false_eq_true, if_false]
  cases cs[o]? <;> rfl
 ·simp only [if_true, Sem.run_bind, qd0 hi, Result.andThen_ok, Sem.run_pure, qf1 hi]
def qsG (P : Program) (F : Nat->Prop) (w : World) (t : TypeId) (ds : List DV) (v : Value) : Prop :=
 if qg1 P t = true then ∃ vs : List Value, v = .agg vs.toArray/\qg0 F w ds vs else ∃ d, ds = [d]/\Rep F w d v
theorem qdV {d : Nat} {t : TypeId} {l : List Nat} (h : qs3 P d t = some l) : ∃ x, P.underlying t = some x := by
 cases d with
 | zero => simp [qs3] at h
 | succ d =>
  unfold qs3 at h;split at h <;> first | exact ⟨_, by assumption⟩ | simp at h
theorem qbJ : ∀ (d : Nat) (t : TypeId) (l : List Nat), qs3 P d t = some l->l.length = P.cellsOf t := by
 intro d
 induction d with
 | zero => intro t l h; simp [qs3] at h
 | succ d ih =>
  intro t l h;unfold qs3 at h;split at h
  ·split at h
   ·cases h; simpa using (by assumption : P.cellsOf t = 1).symm
   ·cases h
  ·split at h
   ·cases h; simpa using (by assumption : P.cellsOf t = 1).symm
   ·cases h
  ·split at h
   ·cases h; simpa using (by assumption : P.cellsOf t = 1).symm
   ·cases h
  ·split at h
   ·cases h
   ·split at h
    ·split at h
     ·cases h; assumption
     ·cases h
    ·cases h
  ·split at h
   ·split at h
    ·cases h
     rename_i n e _ _ m hm hc;rw [hc, ← ih e m hm];simp
    ·cases h
   ·cases h
  ·cases h
theorem qcM {d : Nat} {t : TypeId} {l : List Nat} (h : qs3 P d t = some l) {ds : List DV} {vs : List Value} (hr : qg0 F w ds vs) {o : Nat} (ho : o + P.cellsOf t<=ds.length) :
  ∃ v, (part t vs.toArray o).run P w = .ok v w/\qsG P F w t ((ds.drop o).take (P.cellsOf t)) v := by
 obtain ⟨x, hx⟩ := qdV h;rw [qyU hx];unfold qsG;cases ha : qg1 P t
 ·simp only [Bool.false_eq_true, if_false]
  have h1 : P.cellsOf t = 1 := by
   cases d with
   | zero => simp [qs3] at h
   | succ d =>
    unfold qs3 at h;unfold qg1 at ha;rw [hx] at h ha;cases x <;> simp_all
  rw [h1] at ho ⊢;have hd : ds[o]? = some ds[o] := List.getElem?_eq_getElem (by omega)
  have hv : vs[o]? = some (vs[o]'(by rw [hr.1]; omega)) := List.getElem?_eq_getElem (by rw [hr.1]; omega)
  refine ⟨vs[o]'(by rw [hr.1]; omega), by simp [hv], ds[o], ?_, hr.2 o _ _ hd hv⟩;rw [List.drop_eq_getElem_cons (by omega)];rfl
 ·simp only [if_true]
  refine ⟨_, rfl, (vs.drop o).take (P.cellsOf t), ?_, ?_, ?_⟩
  ·simp [List.extract_toArray, List.extract_eq_take_drop]
  ·simp only [List.length_take, List.length_drop, hr.1]
  ·intro j d v hd hv
   rw [List.getElem?_take] at hd hv;split at hd
   ·rename_i hj
    rw [if_pos hj] at hv;rw [List.getElem?_drop] at hd hv;exact hr.2 _ _ _ hd hv
   ·cases hd
theorem qfB (d : Nat) (fs : List Field) : (fs.foldl (fun (acc : Option (List Nat)) f => acc.bind fun l => if f.name != "_" && f.offset == l.length then (qs3 P d f.type).map (l ++ ·) else none) none) = none := by
 induction fs with
 | nil => rfl
 | cons f fs ih => simpa using ih
theorem qwD (d : Nat) : ∀ (fs : List Field) (x m : List Nat), (fs.foldl (fun (acc : Option (List Nat)) f => acc.bind fun l => if f.name != "_" && f.offset == l.length then (qs3 P d f.type).map (l ++ ·) else none) (some x)) = some m->∃ y, m = x ++ y := by
 intro fs
 induction fs with
 | nil => intro x m h; simp at h; exact ⟨[], by simp [h]⟩
 | cons g l ihl =>
  intro x m h;simp only [List.foldl_cons, Option.bind_some] at h;split at h
  ·cases hk : qs3 P d g.type with
   | none => rw [hk, Option.map_none, qfB] at h; cases h
   | some q =>
    rw [hk, Option.map_some] at h;obtain ⟨y, rfl⟩ := ihl _ _ h;exact ⟨q ++ y, by simp⟩
  ·rw [qfB] at h; cases h
def EqAll (P : Program) (F : Nat->Prop) (D : Nat) (t : TypeId) (l : List Nat) : Prop := ∀ (w : World) (as bs : List DV) (u v : Value) (r : Bool), qsG P F w t as u->qsG P F w t bs v->qnV l as bs = some r->(Op.equalIn D t u v).run P w = .ok r w
theorem qnN {d D : Nat} {as bs : List DV} {us vs : List Value} (ha : qg0 F w as us) (hb : qg0 F w bs vs) (hab : as.length = bs.length) (ih : ∀ t l, qs3 P d t = some l->EqAll P F D t l) :
  ∀ (fs : List Field) (x y : List Nat) (r : Bool), (x ++ y).length = as.length →
   (fs.foldl (fun (acc : Option (List Nat)) f => acc.bind fun l => if f.name != "_" && f.offset == l.length then (qs3 P d f.type).map (l ++ ·) else none) (some x)) = some (x ++ y) →
   qnV y (as.drop x.length) (bs.drop x.length) = some r->(Op.eqFields D us.toArray vs.toArray fs).run P w = .ok r w := by
 intro fs
 induction fs with
 | nil =>
  intro x y r hn hf he;simp only [List.foldl_nil, Option.some.injEq] at hf;have : y = [] := by simpa using hf
  subst this;have h0 : as.drop x.length = [] := List.drop_eq_nil_of_le (by simp at hn; omega);have h1 : bs.drop x.length = [] := List.drop_eq_nil_of_le (by simp at hn; omega);rw [h0, h1] at he;simp [qnV] at he;subst he;simp [Op.eqFields]
 | cons f fs ihf =>
  intro x y r hn hf he;simp only [List.foldl_cons, Option.bind_some] at hf;split at hf
  ·rename_i hc
   simp only [Bool.and_eq_true, bne_iff_ne, ne_eq, beq_iff_eq] at hc;obtain ⟨hname, hoff⟩ := hc;cases hk : qs3 P d f.type with
   | none => rw [hk, Option.map_none, qfB] at hf; cases hf
   | some q =>
    rw [hk, Option.map_some] at hf;obtain ⟨z, hz⟩ := qwD d _ _ _ hf;rw [List.append_assoc] at hz;have hz := List.append_cancel_left hz;subst hz;have hq := qbJ d _ _ hk;have hlen : x.length + q.length + z.length = as.length := by simp at hn; omega
    have hsplit : ∀ l : List DV, l.drop x.length = (l.drop x.length).take (P.cellsOf f.type) ++ l.drop (x ++ q).length := by
     intro l;rw [List.length_append, hq, ← List.drop_drop, List.take_append_drop]
    rw [hsplit as, hsplit bs] at he;obtain ⟨p1, p2, h1, h2, rfl⟩ := qkA (by simp only [List.length_take, List.length_drop]; omega) (by simp only [List.length_take, List.length_drop]; omega) he;obtain ⟨u, hu, hU⟩ := qcM (o := x.length) hk ha (by omega);obtain ⟨v, hv, hV⟩ := qcM (o := x.length) hk hb (by omega);have heq := ih _ _ hk w _ _ u v p1 hU hV h1;have hrest := ihf (x ++ q) z p2 (by simp at hn ⊢; omega) (by rw [List.append_assoc]; exact hf) h2;simp only [Op.eqFields, hname, ne_eq, not_false_eq_true, if_true, Sem.run_bind, hoff, hu, hv, heq, Result.andThen_ok];cases p1
    ·simp
    ·simpa using hrest
  ·rw [qfB] at hf; cases hf
theorem qqF {d D : Nat} {e : TypeId} {l : List Nat} (hp : qs3 P d e = some l) {as bs : List DV} {us vs : List Value} (ha : qg0 F w as us) (hb : qg0 F w bs vs) (hab : as.length = bs.length) (ih : EqAll P F D e l) :
  ∀ (m i : Nat) (r : Bool), (i + m) * P.cellsOf e = as.length->qnV (List.replicate m l).flatten (as.drop (i * P.cellsOf e)) (bs.drop (i * P.cellsOf e)) = some r →
   (Op.eqItems D e (P.cellsOf e) us.toArray vs.toArray (List.range' i m)).run P w = .ok r w := by
 have hq := qbJ d _ _ hp;intro m
 induction m with
 | zero =>
  intro i r hn he;rw [List.drop_eq_nil_of_le (by simp at hn; omega), List.drop_eq_nil_of_le (by simp at hn; omega)] at he;simp [qnV] at he;subst he;simp [Op.eqItems]
 | succ m ihm =>
  intro i r hn he;have hn' : (i + 1 + m) * P.cellsOf e = as.length := by rw [show i + 1 + m = i + (m + 1) by omega]; exact hn
  have h1 : i * P.cellsOf e + P.cellsOf e + m * P.cellsOf e = as.length := by
   rw [← hn', Nat.add_mul, Nat.succ_mul]
  have hsplit : ∀ l : List DV, l.drop (i * P.cellsOf e) = (l.drop (i * P.cellsOf e)).take (P.cellsOf e) ++ l.drop ((i + 1) * P.cellsOf e) := by
   intro l;rw [Nat.succ_mul, ← List.drop_drop, List.take_append_drop]
  rw [hsplit as, hsplit bs, List.replicate_succ, List.flatten_cons] at he;obtain ⟨x, y, hx, hy, rfl⟩ := qkA (by simp only [List.length_take, List.length_drop]; omega) (by simp only [List.length_take, List.length_drop]; omega) he;obtain ⟨u, hu, hU⟩ := qcM (o := i * P.cellsOf e) hp ha (by omega);obtain ⟨v, hv, hV⟩ := qcM (o := i * P.cellsOf e) hp hb (by omega);have heq := ih w _ _ u v x hU hV hx;have hrest := ihm (i + 1) y hn' hy;simp only [List.range'_succ, Op.eqItems, Sem.run_bind, hu, hv, heq, Result.andThen_ok];cases x
  ·simp
  ·simpa using hrest
theorem eqD_run {q : Nat} {x y : DV} {u v : Value} {r : Bool} (hx : Rep F w x u) (hy : Rep F w y v) (h : eqD q x y = some r) (D : Nat) {t : TypeId} {td : TypeDesc} (ht : P.underlying t = some td)
  (hk : (q = 0/\td = .bool)\/(q = 1/\∃ k, td = .int k)\/(q = 2/\td = .string)) : (Op.equalIn (D + 1) t u v).run P w = .ok r w := by
 unfold eqD at h;split at h
 ·split at h
  ·cases h
   rename_i hkk;subst hkk;cases hx; cases hy;rcases hk with ⟨h, _⟩ | ⟨_, k, rfl⟩ | ⟨h, _⟩
   ·cases h
   ·exact run_equalIn_int w D t _ k _ _ ht
   ·cases h
  ·cases h
 ·cases h
  cases hx; cases hy;rcases hk with ⟨_, rfl⟩ | ⟨h, _⟩ | ⟨h, _⟩
  ·exact run_equalIn_bool' w D t _ _ ht
  ·cases h
  ·cases h
 ·cases h
  cases hx; cases hy;rcases hk with ⟨h, _⟩ | ⟨h, _⟩ | ⟨_, rfl⟩
  ·cases h
  ·cases h
  ·rw [run_equalIn_string w D t _ _ ht, qbI]
 ·cases h
theorem eqDs_one {q : Nat} {x y : DV} {r : Bool} (h : qnV [q] [x] [y] = some r) : eqD q x y = some r := by
 simp only [qnV] at h;split at h
 ·rename_i h1 h2; cases h2; rw [h1, ← h]; simp
 ·cases h
theorem eq_plain : ∀ (d : Nat) (t : TypeId) (l : List Nat), qs3 P d t = some l->∀ D, d<=D->EqAll P F D t l := by
 intro d
 induction d with
 | zero => intro t l h; simp [qs3] at h
 | succ d ih =>
  intro t l h D hD w as bs u v r hu hv he;obtain ⟨D, rfl⟩ : ∃ m, D = m + 1 := ⟨D - 1, by omega⟩;obtain ⟨x, hx⟩ := qdV h
  have one : ∀ q, l = [q]->qg1 P t = false->(q = 0/\x = .bool)\/(q = 1/\∃ k, x = .int k)\/(q = 2/\x = .string)->(Op.equalIn (D + 1) t u v).run P w = .ok r w := by
   intro q hl ha hk;subst hl;unfold qsG at hu hv;rw [ha] at hu hv;simp only [Bool.false_eq_true, if_false] at hu hv;obtain ⟨a, rfl, hu⟩ := hu;obtain ⟨b, rfl, hv⟩ := hv;exact eqD_run hu hv (eqDs_one he) D hx hk
  have rows : qg1 P t = true->∃ us vs, u = .agg (List.toArray us)/\v = .agg (List.toArray vs)/\qg0 F w as us/\qg0 F w bs vs := by
   intro ha;unfold qsG at hu hv;rw [ha] at hu hv;simp only [if_true] at hu hv;obtain ⟨us, rfl, hu⟩ := hu;obtain ⟨vs, rfl, hv⟩ := hv;exact ⟨us, vs, rfl, rfl, hu, hv⟩
  have hlen := qbJ _ _ _ h;obtain ⟨l1, l2⟩ := qwC he;unfold qs3 at h;rw [hx] at h;cases x with
  | bool => simp only [] at h; split at h <;> cases h; exact one 0 rfl (by simp [qg1, hx]) (.inl ⟨rfl, rfl⟩)
  | int k => simp only [] at h; split at h <;> cases h; exact one 1 rfl (by simp [qg1, hx]) (.inr (.inl ⟨rfl, k, rfl⟩))
  | string => simp only [] at h; split at h <;> cases h; exact one 2 rfl (by simp [qg1, hx]) (.inr (.inr ⟨rfl, rfl⟩))
  | struct fs =>
   simp only [] at h;split at h
   ·cases h
   ·rename_i hst
    split at h
    ·rename_i m hm
     split at h
     ·cases h
      obtain ⟨us, vs, rfl, rfl, ha, hb⟩ := rows (by simp [qg1, hx]);have hf : P.fieldsOf t = fs := by simp [Program.fieldsOf, hx]
      rw [run_equalIn_struct w D t _ _ (by rw [hf]; exact hx) (by simpa using hst), hf];exact qnN ha hb l2 (fun t' l' h' => ih t' l' h' D (by omega)) fs.toList [] l r (by simpa using l1) (by simpa using hm) (by simpa using he)
     ·cases h
    ·cases h
  | array n e =>
   simp only [] at h;split at h
   ·rename_i m hm
    split at h
    ·cases h
     rename_i hc;obtain ⟨us, vs, rfl, rfl, ha, hb⟩ := rows (by simp [qg1, hx]);obtain ⟨y, hy⟩ := qdV hm;obtain ⟨i, hi⟩ := qj7 hy;rw [run_equalIn_array w D _ _ hx hi, List.range_eq_range'];refine qqF hm ha hb l2 (ih e m hm D (by omega)) n 0 r ?_ (by simpa using he)
     rw [Nat.zero_add, ← hc, ← hlen, l1]
    ·cases h
   ·cases h
  | _ => simp at h
end Go.AI
namespace Go.AI
def qkB (P : Program) (t : TypeId) (x : Operand) : Option Opd :=
 match qo5 x with
 | some (.c (.nils _)) => match P.underlying t with
  | some (.slice e) => some (.c (.nils (P.cellsOf e)))
  | _ => some (.c (.nils 0))
 | y => y
def qkC (P : Program) (place : Nat->Option (Nat × Nat)) : List (Nat × Operand)->Option (List (Nat × Nat × Opd))
 | [] => some []
 | (i, x) :: l => match place i, qo5 x, qkC P place l with
  | some (o, n), some y, some m => some ((o, n, y) :: m)
  | _, _, _ => none
def qr2 (P : Program) (t : TypeId) : Option (List DV) :=
 match P.info? t with
 | some i => match i.zero with
  | some z => lits z.cells.toList
  | none => none
 | none => none
def compP (P : Program) (o : Oper) : Option POp :=
 match o.op with
 | .move x | .assign x => (qkB P o.type x).map .mv
 | .pick c a b => match qo5 c, qo5 a, qo5 b with
  | some c, some a, some b => some (.pick c a b)
  | _, _, _ => none
 | .binOp op t x y _ => match qo5 x, qo5 y with
  | some x', some y' => match P.underlying t with
   | some (.int _) => some (.bin op x' y')
   | some .string => some (.bin op x' y')
   | some .bool => (match op with | .eql => some (.eqb false x' y') | .neq => some (.eqb true x' y') | _ => none)
   | some (.struct _) => if P.eqGuardType P.depth t then none else (match qs3 P 20 t, op with | some l, .eql => some (.eqs l false x' y') | some l, .neq => some (.eqs l true x' y') | _, _ => none)
   | some (.array _ _) => if P.eqGuardType P.depth t then none else (match qs3 P 20 t, op with | some l, .eql => some (.eqs l false x' y') | some l, .neq => some (.eqs l true x' y') | _, _ => none)
   | some (.pointer _) => (match y', op with | .c .nilp, .eql => some (.eqn false x') | .c .nilp, .neq => some (.eqn true x') | _, _ => none)
   | _ => none
  | _, _ => none
 | .unOp op _ x => (qo5 x).map (.un op)
 | .convert src dst x => match qo5 x, P.underlying src, P.underlying dst with
  | some x', some (.int _), some (.int k) => some (.conv k x')
  | _, _, _ => none
 | .build t ps => match qr2 P t, P.underlying t with
  | some z, some (.struct fs) => match fs.toList.mapM (fun f => (P.info? f.type).map fun i => (f.offset, i.size)) with
   | some places => (qkC P (fun i => places[i]?) ps.toList).map (.build z)
   | none => none
  | some z, some (.array _ e) => if (P.info? e).isNone then none else (qkC P (fun i => some (i * P.cellsOf e, P.cellsOf e)) ps.toList).map (.build z)
  | _, _ => none
 | .field t x f => match qo5 x, P.underlying t with
  | some x', some (.struct fs) => match fs[f]? with
   | some fd => match P.underlying fd.type with
    | some _ => some (.field fd.offset (P.cellsOf fd.type) (qg1 P fd.type) x')
    | none => none
   | none => none
  | _, _ => none
 | .index t x i => match qo5 x, qo5 i, P.underlying t with
  | some x', some i', some .string => some (.idxS x' i')
  | some x', some i', some (.array n e) => match P.underlying e with
   | some _ => some (.idxA n (P.cellsOf e) (qg1 P e) x' i')
   | none => none
  | _, _, _ => none
 | .slice t x lo hi mx => match qo5 x, qiT lo, qiT hi, qiT mx, P.underlying t with
  | some x', some lo', some hi', some mx', some (.slice e) => if mx'.isSome/\hi'.isNone then none else (match P.info? e with | some _ => some (.slice (P.cellsOf e) x' lo' hi' mx') | none => none)
  | some x', some lo', some hi', some none, some .string => some (.slS x' lo' hi')
  | _, _, _, _, _ => none
 | .fieldAddr t x f => match qo5 x, P.underlying t with
  | some x', some (.struct fs) => match fs[f]? with
   | some fd => if P.cellsOf fd.type = 0 then none else some (.foff fd.offset x')
   | none => none
  | _, _ => none
 | .indexAddr t x i => match qo5 x, qo5 i, P.underlying t with
  | some x', some i', some (.array n e) => match P.info? e with
   | some _ => some (.aoff n (P.cellsOf e) x' i')
   | none => none
  | some x', some i', some (.slice e) => match P.info? e with
   | some _ => some (.soff (P.cellsOf e) x' i')
   | none => none
  | _, _, _ => none
 | .nilCheck x => (qo5 x).map .chk
 | .extract x i => (qo5 x).map fun x' => .ext x' i
 | .makeFunc (.func f) first caps => if first.isEmpty then (qnM caps.toList).map (.mkf f) else none
 | .sliceToArrayPointer t x => match qo5 x, P.underlying t with
  | some x', some (.array n _) => some (.s2a n x')
  | _, _ => none
 | .call { callee := .builtin .len, args, argTypes } => match args.toList, argTypes.toList with
  | [x], [t] => match qo5 x, P.underlying t with
   | some x', some .string => some (.lenS x')
   | some x', some (.slice _) => some (.len x')
   | some _, some (.array n _) => some (.lenc n)
   | _, _ => none
  | _, _ => none
 | .call { callee := .builtin .min, args, .. } => match qnM args.toList with
  | some (x :: l) => some (.mnx false x l)
  | _ => none
 | .call { callee := .builtin .max, args, .. } => match qnM args.toList with
  | some (x :: l) => some (.mnx true x l)
  | _ => none
 | _ => none
section
variable {P : Program} {J : Id->JI} {F : Nat->Prop} {w : World} {ρ : Opd->AV} {ρp : Bool->Opd->AV} {a : Act}
theorem qcN {t : TypeId} {x : Operand} {y : Opd} (h : qkB P t x = some y) (hr : qz7 J F w ρ a) : VRel J F w (ρ y) (a.eval x) := by
 unfold qkB at h;split at h
 ·rename_i s hx
  have hx' := hr.ev hx
  have : ∃ p, a.eval x = .slice p 0 0 := by
   rw [hr.2] at hx';have hx' := hx'.inv_val;generalize a.eval x = u at hx';cases hx';exact ⟨_, rfl⟩
  obtain ⟨p, hp⟩ := this;rw [hp];split at h
  ·cases h; rw [hr.2]; exact .val _ _ (.nils _ _)
  ·cases h; rw [hr.2]; exact .val _ _ (.nils _ _)
 ·rename_i hx
  exact hr.ev h
theorem qfC (hr : qz7 J F w ρ a) : ∀ {xs : List Operand} {ys : List Opd}, qnM xs = some ys->ys.length = xs.length/\∀ (j : Nat) x y, xs[j]? = some x->ys[j]? = some y->VRel J F w (ρ y) (a.eval x)
 | [], ys, h => by simp [qnM] at h; subst h; simp
 | x :: xs, ys, h => by
  simp only [qnM] at h;split at h
  ·cases h
   rename_i y m h1 h2;obtain ⟨hl, hm⟩ := qfC hr h2;refine ⟨by simp [hl], ?_⟩;intro j u v hu hv;cases j with
   | zero => simp at hu hv; subst hu; subst hv; exact hr.ev h1
   | succ j => simp at hu hv; exact hm j u v hu hv
  ·cases h
theorem VRel.toAgg {l : List AV} {v : Value} (h : VRel J F w (.agg l) v) : ∃ vs : List Value, v = .agg vs.toArray/\vs.length = l.length/\∀ (j : Nat) x u, l[j]? = some x->vs[j]? = some u->VRel J F w x u := by
 cases h with
 | agg _ vs hl h => exact ⟨vs, rfl, hl, h⟩
theorem Rep.toAgg {l : List DV} {v : Value} (h : Rep F w (.agg l) v) : ∃ vs : List Value, v = .agg vs.toArray/\vs.length = l.length/\∀ (j : Nat) x u, l[j]? = some x->vs[j]? = some u->Rep F w x u := by
 cases h with
 | agg _ vs hl h => exact ⟨vs, rfl, hl, h⟩
theorem VRel.cells {x : AV} {v : Value} {l : List AV} (h : VRel J F w x v) (hc : x.cells = some l) : v.cells.toList.length = l.length/\∀ (j : Nat) y u, l[j]? = some y->v.cells.toList[j]? = some u->VRel J F w y u := by
 have single : ∀ z : AV, l = [z]->VRel J F w z v->v.cells = #[v]->v.cells.toList.length = l.length/\∀ (j : Nat) y u, l[j]? = some y->v.cells.toList[j]? = some u->VRel J F w y u := by
  intro z hz hv hcs;subst hz;rw [hcs];refine ⟨rfl, ?_⟩;intro j y u h1 h2;cases j with
  | zero => simp at h1 h2; subst h1; subst h2; exact hv
  | succ j => simp at h1
 cases h with
 | val d _ h =>
  cases d with
  | agg ds =>
   simp only [AV.cells, Option.some.injEq] at hc;subst hc;obtain ⟨vs, rfl, hl, hv⟩ := h.toAgg;simp only [Value.cells];refine ⟨by simpa using hl, ?_⟩;intro j y u h1 h2;rw [List.getElem?_map] at h1;cases hd : ds[j]? with
   | none => rw [hd] at h1; simp at h1
   | some d => rw [hd] at h1; simp at h1; subst h1; exact .val _ _ (hv j d u hd (by simpa using h2))
  | tup _ => simp [AV.cells] at hc
  | _ =>
   simp only [AV.cells, Option.some.injEq] at hc;exact single _ hc.symm (.val _ _ h) (by cases h <;> rfl)
 | box id o g own s cap h => simp only [AV.cells, Option.some.injEq] at hc; exact single _ hc.symm (.box _ _ _ _ _ _ h) rfl
 | elt id i o g own s cap h => simp only [AV.cells, Option.some.injEq] at hc; exact single _ hc.symm (.elt _ _ _ _ _ _ _ h) rfl
 | row id o len g own s cap h h' => simp only [AV.cells, Option.some.injEq] at hc; exact single _ hc.symm (.row _ _ _ _ _ _ _ h h') rfl
 | rowNil id own s cap p h => simp only [AV.cells, Option.some.injEq] at hc; exact single _ hc.symm (.rowNil _ _ _ _ _ h) rfl
 | rowEnd id o g own s cap h ho p c => simp only [AV.cells, Option.some.injEq] at hc; exact single _ hc.symm (.rowEnd _ _ _ _ _ _ h ho _ _) rfl
 | clo f caps vs hl h => simp only [AV.cells, Option.some.injEq] at hc; exact single _ hc.symm (.clo _ _ _ hl h) rfl
 | agg m vs hl h =>
  simp only [AV.cells, Option.some.injEq] at hc;subst hc;simp only [Value.cells];exact ⟨by simpa using hl, fun j y u h1 h2 => h j y u h1 (by simpa using h2)⟩
 | boxDead id o p h => simp only [AV.cells, Option.some.injEq] at hc; exact single _ hc.symm (.boxDead _ _ _ h) rfl
 | eltDead id i o p h => simp only [AV.cells, Option.some.injEq] at hc; exact single _ hc.symm (.eltDead _ _ _ _ h) rfl
 | rowDead id s o len p c h hle hp => simp only [AV.cells, Option.some.injEq] at hc; exact single _ hc.symm (.rowDead _ _ _ _ _ _ h hle hp) rfl
 | tup _ _ _ _ => simp [AV.cells] at hc
 | may _ _ _ _ _ => simp [AV.cells] at hc
 | junk _ => simp [AV.cells] at hc
end
section
variable {P : Program} {J : Id->JI} {F : Nat->Prop} {w : World} {ρ : Opd->AV} {ρp : Bool->Opd->AV} {a : Act}
theorem qfD : ∀ {l : List AV} {ds : List DV} {vs : List Value}, qbH l = some ds->(vs.length = l.length/\∀ (j : Nat) y u, l[j]? = some y->vs[j]? = some u->VRel J F w y u)->qg0 F w ds vs
 | [], ds, vs, h, hv => by simp [qbH] at h; subst h; exact ⟨by simpa using hv.1, by simp⟩
 | x :: l, ds, vs, h, hv => by
  cases x with
  | val d =>
   simp only [qbH, Option.map_eq_some_iff] at h;obtain ⟨m, hm, rfl⟩ := h;cases vs with
   | nil => have := hv.1; simp at this
   | cons v vs =>
    have := qfD (vs := vs) hm ⟨by simpa using hv.1, fun j y u h1 h2 => hv.2 (j + 1) y u (by simpa using h1) (by simpa using h2)⟩;refine ⟨by simpa using this.1, ?_⟩;intro j y u h1 h2;cases j with
    | zero => simp at h1 h2; subst h1; subst h2; exact (hv.2 0 _ _ rfl rfl).inv_val
    | succ j => simp at h1 h2; exact this.2 j y u h1 h2
  | _ => simp [qbH] at h
theorem qkD {agg : Bool} {l : List AV} {x : AV} {vs : List Value} (h : qw7 agg l = some x) (hr : vs.length = l.length/\∀ (j : Nat) y u, l[j]? = some y->vs[j]? = some u->VRel J F w y u) :
  if agg = true then VRel J F w x (.agg vs.toArray) else ∃ v, vs = [v]/\VRel J F w x v := by
 unfold qw7 at h;cases agg
 ·simp only [Bool.false_eq_true, if_false] at h ⊢
  split at h
  ·cases h
   match vs, hr with
   | [v], hr => exact ⟨v, rfl, hr.2 0 _ _ rfl rfl⟩
  ·cases h
 ·simp only [if_true] at h ⊢
  cases h;exact .agg _ _ hr.1 hr.2
theorem qhW {agg : Bool} {l : List DV} {x : AV} {vs : List Value} (h : ql8 agg l = some x) (hr : qg0 F w l vs) :
  if agg = true then VRel J F w x (.agg vs.toArray) else ∃ v, vs = [v]/\VRel J F w x v := by
 unfold ql8 at h;cases agg
 ·simp only [Bool.false_eq_true, if_false] at h ⊢
  split at h
  ·cases h
   match vs, hr with
   | [v], hr => exact ⟨v, rfl, .val _ _ (hr.2 0 _ _ rfl rfl)⟩
  ·cases h
 ·simp only [if_true] at h ⊢
  cases h;exact .val _ _ (.agg _ _ hr.1 hr.2)
theorem qfE {α : Type} {l : List α} {vs : List Value} {R : α->Value->Prop} (h : vs.length = l.length/\∀ (j : Nat) y u, l[j]? = some y->vs[j]? = some u->R y u) (o n : Nat) :
  ((vs.drop o).take n).length = ((l.drop o).take n).length/\∀ (j : Nat) y u, ((l.drop o).take n)[j]? = some y->((vs.drop o).take n)[j]? = some u->R y u := by
 refine ⟨by simp only [List.length_take, List.length_drop, h.1], ?_⟩;intro j y u h1 h2;rw [List.getElem?_take] at h1 h2;split at h1
 ·rename_i hj
  rw [if_pos hj] at h2;rw [List.getElem?_drop] at h1 h2;exact h.2 _ _ _ h1 h2
 ·cases h1
theorem qnW {t : TypeId} {d : TypeDesc} (ht : P.underlying t = some d) {vs : List Value} {o : Nat} (ho : o + P.cellsOf t<=vs.length)
  {x : AV} (h : if qg1 P t = true then VRel J F w x (.agg ((vs.drop o).take (P.cellsOf t)).toArray) else ∃ v, (vs.drop o).take (P.cellsOf t) = [v]/\VRel J F w x v) :
  ∃ v, (part t vs.toArray o).run P w = .ok v w/\VRel J F w x v := by
 rw [qyU ht];cases ha : qg1 P t
 ·rw [ha] at h
  simp only [Bool.false_eq_true, if_false] at h ⊢;obtain ⟨v, hv, h⟩ := h;refine ⟨v, ?_, h⟩;have h0 : ((vs.drop o).take (P.cellsOf t))[0]? = some v := by rw [hv]; rfl
  rw [List.getElem?_take] at h0;split at h0
  ·rw [List.getElem?_drop, Nat.add_zero] at h0
   simp [h0]
  ·cases h0
 ·rw [ha] at h
  simp only [if_true] at h ⊢;refine ⟨_, rfl, ?_⟩;simpa [List.extract_toArray, List.extract_eq_take_drop] using h
theorem pick_rel {t : Bool} {x y : AV} {u v : Value} (hx : t = true->VRel J F w x u) (hy : t = false->VRel J F w y v) : VRel J F w (qqE t x y) (if t = true then u else v) := by
 unfold qqE;cases t
 ·simp only [Bool.false_eq_true, if_false]
  split
  ·exact hy rfl
  ·exact hy rfl
 ·simp only [if_true]
  split
  ·exact hx rfl
  ·exact hx rfl
theorem qnX (gt : Bool) {k : IntKind} : ∀ {l : List AV} {vs : List Value} {n r : Int}, (vs.length = l.length/\∀ (j : Nat) y u, l[j]? = some y->vs[j]? = some u->VRel J F w y u)->qjZ gt n l = some r →
  (vs.foldlM (if gt = true then Builtin.max2 else Builtin.min2) (.int k n)).run P w = .ok (.int k r) w
 | [], vs, n, r, hv, h => by
  have : vs = [] := List.eq_nil_of_length_eq_zero (by simpa using hv.1);subst this;simp only [qjZ, Option.some.injEq] at h;subst h;rfl
 | x :: l, vs, n, r, hv, h => by
  cases vs with
  | nil => have := hv.1; simp at this
  | cons v vs =>
   unfold qjZ at h;split at h
   ·rename_i h0; cases h0
   ·rename_i b l' h0
    cases h0;have hx := (hv.2 0 _ _ rfl rfl).int;subst hx;have := qnX gt (k := k) (l := l) (vs := vs) ⟨by simpa using hv.1, fun j y u h1 h2 => hv.2 (j + 1) y u (by simpa using h1) (by simpa using h2)⟩ h;rw [List.foldlM_cons];cases gt
    ·simpa [Builtin.min2] using this
    ·simpa [Builtin.max2] using this
   ·cases h
theorem qc8 {α : Type} (l : List α) (o : Nat) (xs : List α) (h : o + xs.length<=l.length) : (splice l o xs).length = l.length := by
 simp only [splice, List.length_append, List.length_take, List.length_drop]; omega
theorem qe5 {α : Type} (l : List α) (o : Nat) (xs : List α) (h : o + xs.length<=l.length) (j : Nat) :
  (splice l o xs)[j]? = if j < o then l[j]? else if j < o + xs.length then xs[j - o]? else l[j]? := by
 unfold splice;by_cases h1 : j < o
 ·rw [if_pos h1, List.append_assoc, List.getElem?_append_left (by rw [List.length_take]; omega), List.getElem?_take, if_pos h1]
 ·rw [if_neg h1]
  by_cases h2 : j < o + xs.length
  ·rw [if_pos h2, List.append_assoc, List.getElem?_append_right (by rw [List.length_take]; omega), List.getElem?_append_left (by rw [List.length_take]; omega), List.length_take]
   congr 1; omega
  ·rw [if_neg h2, List.getElem?_append_right (by rw [List.length_append, List.length_take]; omega), List.length_append, List.length_take, List.getElem?_drop]
   congr 1; omega
theorem zl1 (xs : List Value) (o : Nat) : ∀ (k : Nat) (cs : List Value), o + k + xs.length<=cs.length →
  ((xs.zipIdx k).foldl (fun (cs : Array Value) (p : Value × Nat) => cs.setIfInBounds (o + p.2) p.1) cs.toArray).toList = splice cs (o + k) xs := by
 induction xs with
 | nil => intro k cs h; simp [splice]
 | cons v xs ih =>
  intro k cs h;simp only [List.length_cons] at h;simp only [List.zipIdx_cons, List.foldl_cons, List.setIfInBounds_toArray];rw [ih (k + 1) (cs.set (o + k) v) (by simp; omega)]
  apply List.ext_getElem?
  intro j;rw [qe5 _ _ _ (by simp; omega), qe5 _ _ _ (by simp; omega)];simp only [List.length_cons];by_cases h1 : j < o + k
  ·rw [if_pos (by omega), if_pos h1, List.getElem?_set_ne (by omega)]
  ·by_cases h2 : j = o + k
   ·subst h2
    rw [if_pos (by omega), if_neg (by omega), if_pos (by omega), List.getElem?_set_self (by omega)];simp
   ·rw [if_neg (by omega), if_neg h1]
    by_cases h3 : j < o + k + (xs.length + 1)
    ·rw [if_pos (by omega), if_pos h3, show j - (o + k) = (j - (o + (k + 1))) + 1 by omega, List.getElem?_cons_succ]
    ·rw [if_neg (by omega), if_neg h3, List.getElem?_set_ne (by omega)]
theorem qgQ (cs : List Value) (xs : List Value) (o : Nat) (h : o + xs.length<=cs.length) :
  (xs.toArray.zipIdx.foldl (fun (cs : Array Value) (p : Value × Nat) => cs.setIfInBounds (o + p.2) p.1) cs.toArray) = (splice cs o xs).toArray := by
 have := zl1 xs o 0 cs (by simpa using h);simp only [Nat.add_zero] at this;rw [← this];rw [← Array.foldl_toList];simp
theorem qnY {l xs : List AV} {vs us : List Value} {o : Nat} (h : vs.length = l.length/\∀ (j : Nat) y u, l[j]? = some y->vs[j]? = some u->VRel J F w y u)
  (h' : us.length = xs.length/\∀ (j : Nat) y u, xs[j]? = some y->us[j]? = some u->VRel J F w y u) (ho : o + xs.length<=l.length) :
  (splice vs o us).length = (splice l o xs).length/\∀ (j : Nat) y u, (splice l o xs)[j]? = some y->(splice vs o us)[j]? = some u->VRel J F w y u := by
 refine ⟨by rw [qc8 _ _ _ ho, qc8 _ _ _ (by rw [h'.1, h.1]; exact ho), h.1], ?_⟩;intro j y u h1 h2;rw [qe5 _ _ _ ho] at h1;rw [qe5 _ _ _ (by rw [h'.1, h.1]; exact ho), h'.1] at h2;split at h1
 ·rename_i hj
  rw [if_pos hj] at h2;exact h.2 _ _ _ h1 h2
 ·rename_i hj
  rw [if_neg hj] at h2;split at h1
  ·rename_i hj
   rw [if_pos hj] at h2;exact h'.2 _ _ _ h1 h2
  ·rename_i hj
   rw [if_neg hj] at h2;exact h.2 _ _ _ h1 h2
theorem qsH (hr : qz7 J F w ρ a) {place : Nat->Option (Nat × Nat)} : ∀ {ps : List (Nat × Operand)} {qs : List (Nat × Nat × Opd)} {l m : List AV} {vs : List Value}, qkC P place ps = some qs->parts ρ l qs = some m →
  (vs.length = l.length/\∀ (j : Nat) y u, l[j]? = some y->vs[j]? = some u->VRel J F w y u) →
  ∃ us : List Value, Instr.fill place vs.toArray (ps.map fun (i, x) => (i, a.eval x)) = some us.toArray/\(us.length = m.length/\∀ (j : Nat) y u, m[j]? = some y->us[j]? = some u->VRel J F w y u)
 | [], qs, l, m, vs, hc, hp, hv => by
  simp [qkC] at hc;subst hc;simp only [parts, Option.some.injEq] at hp;subst hp;exact ⟨vs, rfl, hv⟩
 | (i, x) :: ps, qs, l, m, vs, hc, hp, hv => by
  simp only [qkC] at hc;split at hc
  ·cases hc
   rename_i o n y q h1 h2 h3;simp only [parts] at hp;split at hp
   ·rename_i xs hx
    split at hp
    ·rename_i hb
     have hcx := (hr.ev h2).cells hx;have hlen : o + (a.eval x).cells.toList.length<=vs.length := by rw [hcx.1, hv.1, hb.1]; exact hb.2
     have hs := qnY (o := o) hv hcx (by rw [hb.1]; exact hb.2);obtain ⟨us, hu, hU⟩ := qsH hr h3 hp hs;refine ⟨us, ?_, hU⟩;have hsz : (a.eval x).cells.size = n := by rw [← hb.1, ← hcx.1]; simp
     simp only [List.map_cons, Instr.fill, h1];rw [if_neg (by simp only [hsz, ne_eq, not_true_eq_false, Bool.or_eq_true, decide_eq_true_eq, false_or]; simp; rw [hv.1]; omega)];have hf := qgQ vs (a.eval x).cells.toList o hlen;rw [Array.toArray_toList] at hf;rw [hf];exact hu
    ·cases hp
   ·cases hp
  ·cases hc
end
section
variable {P : Program} {J : Id->JI} {F : Nat->Prop} {w : World} {ρ : Opd->AV} {ρp : Bool->Opd->AV} {a : Act}
def qo6 (P : Program) (J : Id->JI) (F : Nat->Prop) (w : World) (a : Act) (o : Oper) (x : AV) : Prop := ∃ v, (execOp a.eval o).run P w = .ok (.value v) w/\VRel J F w x v
theorem qx6 {t : TypeId} {z : List DV} (h : qr2 P t = some z) : ∃ i v, P.info? t = some i/\i.zero = some v/\(zeroValue t).run P w = .ok v w/\qg0 F w z v.cells.toList := by
 unfold qr2 at h;split at h
 ·rename_i i hi
  split at h
  ·rename_i v hv
   refine ⟨i, v, hi, hv, ?_, ?_⟩
   ·simp [zeroValue, typeInfo, hi, hv]
   ·exact ⟨(qu6 h).symm, qyT h⟩
  ·cases h
 ·cases h
theorem qg0.toV {ds : List DV} {vs : List Value} (h : qg0 F w ds vs) : vs.length = (ds.map AV.val).length/\∀ (j : Nat) y u, (ds.map AV.val)[j]? = some y->vs[j]? = some u->VRel J F w y u := by
 refine ⟨by simpa using h.1, ?_⟩;intro j y u h1 h2;rw [List.getElem?_map] at h1;cases hd : ds[j]? with
 | none => rw [hd] at h1; simp at h1
 | some d => rw [hd] at h1; simp at h1; subst h1; exact .val _ _ (h.2 j d u hd h2)
theorem qkE (hr : qz7 J F w ρ a) {o : Oper} {t : TypeId} {ps : Array (Nat × Operand)} (ho : o.op = .build t ps) {place : Nat->Option (Nat × Nat)} {z : List DV} {qs : List (Nat × Nat × Opd)}
  (hz : qr2 P t = some z) (hq : qkC P place ps.toList = some qs) {x : AV} (hs : qe2 ρ ρp (.build z qs) = some x)
  (hrun : ∀ cells cs : Array Value, Instr.fill place cs (ps.toList.map fun (i, x) => (i, a.eval x)) = some cells->∀ zv, (zeroValue t).run P w = .ok zv w->zv.cells = cs->(Instr.build t (ps.map fun (i, x) => (i, a.eval x))).run P w = .ok (.agg cells) w) :
  qo6 P J F w a o x := by
 obtain ⟨i, v, hi, hv, hzr, hzc⟩ := qx6 (F := F) (w := w) hz;simp only [qe2, Option.map_eq_some_iff] at hs;obtain ⟨m, hm, rfl⟩ := hs;obtain ⟨us, hu, hU⟩ := qsH hr hq hm hzc.toV;refine ⟨.agg us.toArray, ?_, .agg _ _ hU.1 hU.2⟩;unfold execOp;simp only [ho, Sem.run_bind];rw [hrun us.toArray v.cells (by simpa using hu) v hzr rfl];rfl
theorem qdW {x : Operand} {i : Opd} {n : Int} (hr : qz7 J F w ρ a) (hi : qo5 x = some i) (hn : (ρ i).num = some n) : ∃ k, a.eval x = .int k n := (hr.ev hi).num hn
theorem qkF {m : Option Operand} {m' : Option Opd} (hr : qz7 J F w ρ a) (hm : qiT m = some m') {d n : Int} (h : qo4 ρ d m' = some n) :
  (m = none/\n = d)\/∃ x k, m = some x/\a.eval x = .int k n := by
 cases m with
 | none => simp [qiT] at hm; subst hm; simp [qo4] at h; exact .inl ⟨rfl, h.symm⟩
 | some x =>
  simp only [qiT, Option.map_eq_some_iff] at hm;obtain ⟨y, hy, rfl⟩ := hm;obtain ⟨k, hk⟩ := qdW hr hy h;exact .inr ⟨x, k, rfl, hk⟩
theorem ze6 {n : Nat} {ρ : Opd->AV} {lo hi mx : Option Opd} {l h m : Nat} (hb : qm6 n ρ lo hi mx = some (l, h, m)) :
  ∃ l' h' m' : Int, qo4 ρ n mx = some m'/\qo4 ρ n hi = some h'/\qo4 ρ 0 lo = some l' ∧
   0<=l'/\l'<=h'/\h'<=m'/\m'<=(n : Int)/\l = l'.toNat/\h = h'.toNat/\m = m'.toNat := by
 unfold qm6 at hb;split at hb
 ·rename_i m' h' l' h1 h2 h3
  split at hb
  ·rename_i hc
   simp only [Option.some.injEq, Prod.mk.injEq] at hb;exact ⟨l', h', m', h1, h2, h3, hc.1, hc.2.1, hc.2.2.1, hc.2.2.2, hb.1.symm, hb.2.1.symm, hb.2.2.symm⟩
  ·cases hb
 ·cases hb
theorem qk6 {isSlice : Bool} {n c : Nat} (hnc : n<=c) (hr : qz7 J F w ρ a) {lo hi mx : Option Operand} {lo' hi' mx' : Option Opd} (h1 : qiT lo = some lo') (h2 : qiT hi = some hi') (h3 : qiT mx = some mx')
  (hmh : ¬ (mx'.isSome = true/\hi'.isNone = true)) {l h m : Nat} (hb : qm6 n ρ lo' hi' mx' = some (l, h, m)) :
  l<=h/\h<=m/\m<=n/\(Instr.sliceBounds isSlice n c (lo.map a.eval) (hi.map a.eval) (mx.map a.eval)).run P w = .ok (l, h, if mx'.isSome = true then m else c) w := by
 obtain ⟨l', h', m', e1, e2, e3, c1, c2, c3, c4, rfl, rfl, rfl⟩ := ze6 hb;refine ⟨by omega, by omega, by omega, ?_⟩;have b1 := qkF hr h3 e1;have b2 := qkF hr h2 e2;have b3 := qkF hr h1 e3;have hsb : ∀ k (i : Int) (y : Nat) code, 0<=i->i<=y->(Instr.sliceBound (.int k i) y code).run P w = .ok i.toNat w := fun k i y code q1 q2 => run_sliceBound w k i y code q1 q2
 have hmx : mx'.isSome = mx.isSome := by
  cases mx with
  | none => simp [qiT] at h3; subst h3; rfl
  | some x => simp only [qiT, Option.map_eq_some_iff] at h3; obtain ⟨y, _, rfl⟩ := h3; rfl
 have hhx : hi'.isNone = hi.isNone := by
  cases hi with
  | none => simp [qiT] at h2; subst h2; rfl
  | some x => simp only [qiT, Option.map_eq_some_iff] at h2; obtain ⟨y, _, rfl⟩ := h2; rfl
 rw [hmx, hhx] at hmh;unfold Instr.sliceBounds;rcases b1 with ⟨rfl, rfl⟩ | ⟨xm, km, rfl, em⟩
 ·simp only [Option.map_none, Sem.run_bind, Sem.run_pure, Result.andThen_ok, Option.isSome_none, Bool.false_eq_true, if_false, hmx]
  rcases b2 with ⟨rfl, rfl⟩ | ⟨xh, kh, rfl, eh⟩
  ·simp only [Option.map_none, Sem.run_pure, Result.andThen_ok, Int.toNat_natCast]
   rcases b3 with ⟨rfl, rfl⟩ | ⟨xl, kl, rfl, el⟩
   ·simp
   ·simp only [Option.map_some, el, Sem.run_bind, hsb kl l' n .sliceB c1 (by omega), Result.andThen_ok, Sem.run_pure]
  ·simp only [Option.map_some, eh, Sem.run_bind]
   rw [hsb kh h' c _ (by omega) (by omega)];simp only [Result.andThen_ok];rcases b3 with ⟨rfl, rfl⟩ | ⟨xl, kl, rfl, el⟩
   ·simp
   ·simp only [Option.map_some, el, Sem.run_bind, hsb kl l' h'.toNat .sliceB c1 (by omega), Result.andThen_ok, Sem.run_pure]
 ·simp only [Option.map_some, em, Sem.run_bind, Option.isSome_some, if_true, hmx]
  rw [hsb km m' c _ (by omega) (by omega)];simp only [Result.andThen_ok];rcases b2 with ⟨rfl, _⟩ | ⟨xh, kh, rfl, eh⟩
  ·exact absurd ⟨rfl, rfl⟩ hmh
  ·simp only [Option.map_some, eh, Sem.run_bind]
   rw [hsb kh h' m'.toNat _ (by omega) (by omega)];simp only [Result.andThen_ok];rcases b3 with ⟨rfl, rfl⟩ | ⟨xl, kl, rfl, el⟩
   ·simp
   ·simp only [Option.map_some, el, Sem.run_bind, hsb kl l' h'.toNat .slice3C c1 (by omega), Result.andThen_ok, Sem.run_pure]
theorem zl2 {s : Nat} {l : List (List DV)} {p : Option Addr} {len c : Nat} (hv : Rep F w (.sl s l) (.slice p len c)) {x y m : Nat} (h1 : x<=y) (h2 : y<=l.length) (h3 : y<=m) (h4 : m<=c) :
  Rep F w (.sl s ((l.take y).drop x)) (.slice (if m = x then p else p.map (·.add (x * s))) (y - x) (m - x)) := by
 cases hv with
 | sl0 => simp at h2; subst h2; simp at h1; subst h1; simpa using Rep.sl0 s _ _
 | sl _ _ g o _ vals hs hc hsg hF hcell hrep =>
  by_cases he : y = x
  ·subst he
   have : (l.take y).drop y = [] := by rw [List.drop_eq_nil_of_le]; rw [List.length_take]; omega
   rw [this, Nat.sub_self];exact Rep.sl0 s _ _
  ·have hlen : ((l.take y).drop x).length = y - x := by simp only [List.length_drop, List.length_take]; omega
   have hget : ∀ i e, ((l.take y).drop x)[i]? = some e->l[x + i]? = some e := by
    intro i e h;rw [List.getElem?_drop, List.getElem?_take] at h;split at h
    ·exact h
    ·cases h
   rw [if_neg (by omega), ← hlen, Option.map_some, Addr.add_mid];refine Rep.sl s _ g (o + x * s) (m - x) (fun i j => vals (x + i) j) ?_ (by rw [hlen]; omega) ?_ hF ?_ ?_
   ·intro e hm
    obtain ⟨i, hi⟩ := List.getElem?_of_mem hm
    exact hs e (List.mem_of_getElem? (hget i e hi))
   ·intro e hm
    obtain ⟨i, hi⟩ := List.getElem?_of_mem hm
    exact hsg e (List.mem_of_getElem? (hget i e hi))
   ·intro i j e d h h'
    have := hcell (x + i) j e d (hget i e h) h';rw [← this]
    congr 2
    rw [Nat.add_mul]; omega
   ·intro i j e d h h'
    exact hrep (x + i) j e d (hget i e h) h'
theorem zl3 {id : Id} {s o n : Nat} {v : Value} (hv : VRel J F w (.row id s o n) v) : ∃ p c, v = .slice p n c/\n<=c/\∀ x y, x<=y->y<=n →
  VRel J F w (.row id s (o + x) (y - x)) (.slice (if c = x then p else p.map (·.add (x * s))) (y - x) (c - x)) := by
 cases hv with
 | row _ _ _ g own s cap h hc =>
  refine ⟨_, _, rfl, by omega, ?_⟩;intro x y h1 h2;by_cases he : cap - o = x
  ·rw [if_pos he]
   obtain rfl : y = x := by omega
   rw [Nat.sub_self];by_cases ho : o + y = 0
   ·have h0 : o = 0 := by omega
    have h1 : y = 0 := by omega
    subst h0; subst h1;exact .row _ _ _ _ _ _ _ h (by omega)
   ·exact .rowEnd _ _ _ _ _ _ h ho _ _
  ·rw [if_neg he, Option.map_some, Addr.add_mid, show o * s + x * s = (o + x) * s by rw [Nat.add_mul], show cap - o - x = cap - (o + x) by omega]
   exact .row _ _ _ _ _ _ _ h (by omega)
 | rowNil _ own s cap p h =>
  refine ⟨_, _, rfl, Nat.le_refl _, ?_⟩;intro x y h1 h2;obtain rfl : y = 0 := by omega
  obtain rfl : x = 0 := by omega
  simpa using VRel.rowNil _ _ _ _ _ h
 | rowEnd _ o g own s cap h ho p c =>
  refine ⟨_, _, rfl, Nat.zero_le _, ?_⟩;intro x y h1 h2;obtain rfl : y = 0 := by omega
  obtain rfl : x = 0 := by omega
  exact .rowEnd _ _ _ _ _ _ h (by omega) _ _
 | rowDead _ _ _ _ p c h hle hp =>
  refine ⟨_, _, rfl, hle, ?_⟩;intro x y h1 h2;refine .rowDead _ _ _ _ _ _ h (by omega) ?_
  intro hn;have := hp (by omega);split
  ·exact this
  ·cases p <;> simp_all
end
section
variable {P : Program} {J : Id->JI} {F : Nat->Prop} {w : World} {ρ : Opd->AV} {ρp : Bool->Opd->AV} {a : Act}
theorem qx7 {o : Oper} {x : AV} {s : Sem Value} {v : Value} (ho : execOp a.eval o = (do pure (.value (← s)))) (hs : s.run P w = .ok v w) (hv : VRel J F w x v) : qo6 P J F w a o x :=
 ⟨v, by rw [ho, Sem.run_bind, hs]; rfl, hv⟩
theorem qwE {cs : List DV} {v : Value} (h : Rep F w (.pt cs) v) : ∃ g o, v = .pointer (some ⟨g, o, none⟩)/\∀ n, Rep F w (.pt (cs.drop n)) (.pointer (some ⟨g, o + n, none⟩)) := by
 cases h with
 | pt _ g o vals hF hcell hrep =>
  refine ⟨g, o, rfl, fun n => ?_⟩;refine .pt _ g (o + n) (fun j => vals (n + j)) hF ?_ ?_
  ·intro j d h
   rw [List.getElem?_drop] at h;rw [Nat.add_assoc];exact hcell _ _ h
  ·intro j d h
   rw [List.getElem?_drop] at h;exact hrep _ _ h
theorem qyV {x y : AV} {v : Value} {n : Nat} (hv : VRel J F w x v) (h : x.moved n = some y) : ∃ p, v = .pointer (some p)/\VRel J F w y (.pointer (some (p.add n))) := by
 cases hv with
 | box id i g own s cap h' =>
  cases h;exact ⟨_, rfl, by rw [Addr.add_mid]; exact .box _ _ _ _ _ _ h'⟩
 | boxDead id i p h' => cases h; exact ⟨p, rfl, .boxDead _ _ _ h'⟩
 | elt id i j g own s cap h' =>
  cases h;exact ⟨_, rfl, by rw [Addr.add_mid, Nat.add_assoc]; exact .elt _ _ _ _ _ _ _ h'⟩
 | eltDead id i j p h' => cases h; exact ⟨p, rfl, .eltDead _ _ _ _ h'⟩
 | val d _ h' =>
  cases d with
  | pt cs =>
   cases h;obtain ⟨g, o, rfl, hn⟩ := qwE h';exact ⟨_, rfl, by rw [Addr.add_mid]; exact .val _ _ (hn n)⟩
  | _ => cases h
 | _ => cases h
theorem qsI {x : Option Operand} (h : qiT x = some none) : x = none := by
 cases x with
 | none => rfl
 | some z => simp [qiT] at h
theorem qwF (hr : qz7 J F w ρ a) {o : Oper} {t e : TypeId} {x : Operand} {lo hi mx : Option Operand} {x' : Opd} {lo' hi' mx' : Option Opd} (ho : o.op = .slice t x lo hi mx)
  (hx : qo5 x = some x') (h1 : qiT lo = some lo') (h2 : qiT hi = some hi') (h3 : qiT mx = some mx') (ht : P.underlying t = some (.slice e)) {i : TypeInfo} (hi0 : P.info? e = some i)
  (hmh : ¬ (mx'.isSome = true/\hi'.isNone = true)) {y : AV} (hs : qe2 ρ ρp (.slice (P.cellsOf e) x' lo' hi' mx') = some y) : qo6 P J F w a o y := by
 have hv := hr.ev hx
 have run : ∀ p n c l h m, a.eval x = .slice p n c->(Instr.sliceBounds true n c (lo.map a.eval) (hi.map a.eval) (mx.map a.eval)).run P w = .ok (l, h, m) w →
   (execOp a.eval o).run P w = .ok (.value (.slice (if m = l then p else p.map (·.add (l * P.cellsOf e))) (h - l) (m - l))) w := by
  intro p n c l h m hx hb;unfold execOp;simp only [ho, hx, Instr.sliceAt, Instr.slice, Sem.run_bind, run_underlying ht, Result.andThen_ok, hb, qd0 hi0, Sem.run_pure, qf1 hi0]
 simp only [qe2] at hs;split at hs
 ·rename_i s' l hx'
  rw [hx'] at hv;split at hs
  ·rename_i hss
   simp only [Option.map_eq_some_iff] at hs;obtain ⟨⟨al, h, m⟩, hb, hy⟩ := hs
   have hval : Rep F w (.sl (P.cellsOf e) l) (a.eval x) := by
    rcases hss with hss | rfl
    ·subst hss
     exact hv.inv_val
    ·have := hv.inv_val
     generalize a.eval x = u at this;cases this with
     | sl0 _ p c => exact .sl0 _ p c
     | sl => exact .sl0 _ _ _
   have hsl : ∃ p c, a.eval x = .slice p l.length c/\l.length<=c := by
    generalize a.eval x = u at hval;cases hval with
    | sl0 _ p c => exact ⟨p, c, rfl, Nat.zero_le _⟩
    | sl _ _ g o c vals _ hc _ _ _ => exact ⟨_, c, rfl, hc⟩
   obtain ⟨p, c, hpc, hlc⟩ := hsl;obtain ⟨q1, q2, q3, hrun⟩ := qk6 (P := P) (isSlice := true) hlc hr h1 h2 h3 hmh hb;refine ⟨_, run p l.length c al h _ hpc hrun, ?_⟩;rw [hpc] at hval;have hm : h<=(if mx'.isSome = true then m else c)/\(if mx'.isSome = true then m else c)<=c := by split <;> omega
   simp only at hy;split at hy
   ·rename_i hc
    subst hy;rw [if_pos hc.1];have : h = al := by omega
    subst this;rw [hc.2, Nat.sub_self];exact .val _ _ (.nils _ _)
   ·subst hy
    exact .val _ _ (zl2 hval q1 (by omega) hm.1 hm.2)
  ·cases hs
 ·rename_i s' hx'
  rw [hx'] at hv;simp only [Option.map_eq_some_iff] at hs;obtain ⟨⟨al, h, m⟩, hb, hy⟩ := hs;have hval := hv.inv_val
  have hsl : ∃ p, a.eval x = .slice p 0 0 := by
   generalize a.eval x = u at hval;cases hval;exact ⟨_, rfl⟩
  obtain ⟨p, hpc⟩ := hsl;obtain ⟨q1, q2, q3, hrun⟩ := qk6 (P := P) (isSlice := true) (Nat.le_refl 0) hr h1 h2 h3 hmh hb;refine ⟨_, run p 0 0 al h _ hpc hrun, ?_⟩;subst hy;obtain rfl : m = 0 := by omega
  obtain rfl : h = 0 := by omega
  obtain rfl : al = 0 := by omega
  simp only [ite_self, Nat.sub_self];exact .val _ _ (.nils _ _)
 ·rename_i id s' o' n hx'
  rw [hx'] at hv;split at hs
  ·cases hs
  ·rename_i hc
   have hms : mx'.isSome = false := by cases hq : mx'.isSome <;> simp_all
   have hss : s' = P.cellsOf e := by
    by_cases hq : s' = P.cellsOf e
    ·exact hq
    ·exact absurd (.inr hq) hc
   subst hss;have hmx : mx' = none := by cases mx' <;> simp_all
   subst hmx;have hmx := qsI h3;subst hmx;simp only [Option.map_eq_some_iff] at hs;obtain ⟨⟨al, h, m⟩, hb, hy⟩ := hs;subst hy;obtain ⟨p, c, hpc, hnc, hrow⟩ := zl3 hv;obtain ⟨q1, q2, q3, hrun⟩ := qk6 (P := P) (isSlice := true) hnc hr h1 h2 h3 hmh hb;refine ⟨_, run p n c al h _ hpc hrun, ?_⟩;simp only [Option.isSome_none, Bool.false_eq_true, if_false];exact hrow al h q1 (by omega)
 ·cases hs
end
section
variable {P : Program} {J : Id->JI} {F : Nat->Prop} {w : World} {ρ : Opd->AV} {ρp : Bool->Opd->AV} {a : Act}
theorem qsJ {x : AV} {v : Value} {t : TypeId} {d : TypeDesc} (ht : P.underlying t = some d) (hv : VRel J F w x v) {o : Nat} {y : AV} (h : x.part o (P.cellsOf t) (qg1 P t) = some y) : ∃ vs : List Value, v = .agg vs.toArray/\∃ u, (part t vs.toArray o).run P w = .ok u w/\VRel J F w y u := by
 cases x with
 | agg l =>
  simp only [AV.part] at h;split at h
  ·rename_i hb
   obtain ⟨vs, rfl, hl, hr⟩ := hv.toAgg;refine ⟨vs, rfl, qnW ht (by omega) (qkD h ?_)⟩;exact qfE ⟨hl, hr⟩ _ _
  ·cases h
 | val d =>
  cases d with
  | agg l =>
   simp only [AV.part] at h;split at h
   ·rename_i hb
    obtain ⟨vs, rfl, hl, hr⟩ := hv.inv_val.toAgg;refine ⟨vs, rfl, qnW ht (by omega) (qhW h ?_)⟩;exact qfE ⟨hl, hr⟩ _ _
   ·cases h
  | _ => cases h
 | _ => cases h
theorem qyW {x : AV} {v : Value} {ds : List DV} (hv : VRel J F w x v) (h : x.aggD = some ds) : ∃ vs : List Value, v = .agg vs.toArray/\qg0 F w ds vs := by
 cases x with
 | agg l =>
  obtain ⟨vs, rfl, hl, hr⟩ := hv.toAgg;exact ⟨vs, rfl, qfD h ⟨hl, hr⟩⟩
 | val d =>
  cases d with
  | agg l =>
   simp only [AV.aggD, Option.some.injEq] at h;subst h;obtain ⟨vs, rfl, hl, hr⟩ := hv.inv_val.toAgg;exact ⟨vs, rfl, hl, hr⟩
  | _ => cases h
 | _ => cases h
theorem zl4 (hr : qz7 J F w ρ a) {o : Oper} {op : BinOp} {t yt : TypeId} {x y : Operand} {x' y' : Opd} (ho : o.op = .binOp op t x y yt) (hx : qo5 x = some x') (hy : qo5 y = some y')
  (hg : P.eqGuardType P.depth t = false) (ha : qg1 P t = true) {l : List Nat} (hk : qs3 P 20 t = some l) {neg : Bool} (hop : op = if neg then .neq else .eql) {z : AV}
  (hs : qe2 ρ ρp (.eqs l neg x' y') = some z) : qo6 P J F w a o z := by
 simp only [qe2] at hs;split at hs
 ·rename_i as bs h1 h2
  simp only [Option.map_eq_some_iff] at hs;obtain ⟨r, hr', rfl⟩ := hs;obtain ⟨us, e1, c1⟩ := qyW (hr.ev hx) h1;obtain ⟨vs, e2, c2⟩ := qyW (hr.ev hy) h2;have heq := eq_plain 20 t l hk 10000 (by omega) w as bs (.agg us.toArray) (.agg vs.toArray) r (by unfold qsG; rw [if_pos ha]; exact ⟨us, rfl, c1⟩) (by unfold qsG; rw [if_pos ha]; exact ⟨vs, rfl, c2⟩) hr';refine ⟨.bool (if neg then !r else r), ?_, .val _ _ (.bool _)⟩;unfold execOp;simp only [ho, Sem.run_bind, e1, e2, run_eqGuard_agg w op t x y us.toArray vs.toArray hg, Result.andThen_ok];subst hop;cases neg
  ·simp only [Bool.false_eq_true, if_false, run_eql_struct w t, heq, Result.andThen_ok, Sem.run_pure]
  ·simp only [if_true, run_neq_struct w t, heq, Result.andThen_ok, Sem.run_pure]
 ·cases hs
theorem qsK (hr : qz7 J F w ρ a) {o : Oper} {op : BinOp} {t e yt : TypeId} {x y : Operand} {x' : Opd} (ho : o.op = .binOp op t x y yt) (hx : qo5 x = some x') (hy : qo5 y = some (.c .nilp)) (ht : P.underlying t = some (.pointer e))
  {neg : Bool} (hop : op = if neg then .neq else .eql) {z : AV} (hs : qe2 ρ ρp (.eqn neg x') = some z) : qo6 P J F w a o z := by
 have hv := hr.ev hx;have hn := hr.ev hy;rw [hr.2] at hn
 have hn : a.eval y = .pointer none := by
  generalize a.eval y = u at hn;cases hn.inv_val;rfl
 have key : ∀ p : Option Addr, a.eval x = .pointer p->(execOp a.eval o).run P w = .ok (.value (.bool (if neg then p.isSome else p.isNone))) w := by
  intro p hp;have hq : ∀ u v : Option Addr, (eqGuard op t x y (.pointer u) (.pointer v)).run P w = .ok () w := fun u v => qz8 op t x y (by simp) (by simp)
  have he : (Op.equal t (.pointer p) (.pointer none)).run P w = .ok p.isNone w := by
   exact run_equal_pointer_nil w t p (by simp [Program.pointee, ht])
  unfold execOp;simp only [ho, Sem.run_bind, hp, hn, hq, Result.andThen_ok];subst hop;cases neg
  ·simp only [Bool.false_eq_true, if_false, binOp, Sem.run_bind, he, Result.andThen_ok, Sem.run_pure]
  ·simp only [if_true, binOp, Sem.run_bind, he, Result.andThen_ok, Sem.run_pure]
   cases p <;> rfl
 simp only [qe2] at hs;generalize hx' : ρ x' = u at hs hv;generalize hax : a.eval x = v at hv;cases hv with
 | val d _ h =>
  cases d with
  | nilp =>
   cases hs;cases h;refine ⟨_, key none hax, ?_⟩;cases neg <;> exact .val _ _ (.bool _)
  | pt cs =>
   cases hs;obtain ⟨g, o', rfl, _⟩ := qwE h;refine ⟨_, key _ hax, ?_⟩;cases neg <;> exact .val _ _ (.bool _)
  | _ => cases hs
 | box id i g own s cap h' => cases hs; refine ⟨_, key _ hax, ?_⟩; cases neg <;> exact .val _ _ (.bool _)
 | boxDead id i p h' => cases hs; refine ⟨_, key _ hax, ?_⟩; cases neg <;> exact .val _ _ (.bool _)
 | elt id i j g own s cap h' => cases hs; refine ⟨_, key _ hax, ?_⟩; cases neg <;> exact .val _ _ (.bool _)
 | eltDead id i j p h' => cases hs; refine ⟨_, key _ hax, ?_⟩; cases neg <;> exact .val _ _ (.bool _)
 | _ => cases hs
theorem ze7 (hr : qz7 J F w ρ a) {o : Oper} {t : TypeId} {x : Operand} {f : Nat} {x' : Opd} (ho : o.op = .fieldAddr t x f) (hx : qo5 x = some x') {fs : Array Field} (ht : P.underlying t = some (.struct fs)) {fd : Field}
  (hf : fs[f]? = some fd) (hc : P.cellsOf fd.type ≠ 0) {z : AV} (hs : qe2 ρ ρp (.foff fd.offset x') = some z) : qo6 P J F w a o z := by
 simp only [qe2] at hs;obtain ⟨p, hp, hz⟩ := qyV (hr.ev hx) hs
 have hi : ∃ i, P.info? fd.type = some i := by
  unfold Program.cellsOf at hc;cases hq : P.info? fd.type with
  | none => simp [hq] at hc
  | some i => exact ⟨i, rfl⟩
 obtain ⟨i, hi⟩ := hi;rw [qf1 hi] at hc;refine ⟨_, ?_, hz⟩;unfold execOp;simp only [ho, hp, Instr.fieldAt, Instr.sureAddr, Sem.run_bind, run_underlying ht, hf, Result.andThen_ok, fieldPlace, Sem.run_pure, qd0 hi, if_neg hc]
theorem ze8 (hr : qz7 J F w ρ a) {o : Oper} {t e : TypeId} {n : Nat} {x i : Operand} {x' i' : Opd} (ho : o.op = .indexAddr t x i) (hx : qo5 x = some x') (hi : qo5 i = some i') (ht : P.underlying t = some (.array n e)) {ti : TypeInfo}
  (he : P.info? e = some ti) {z : AV} (hs : qe2 ρ ρp (.aoff n (P.cellsOf e) x' i') = some z) : qo6 P J F w a o z := by
 simp only [qe2] at hs;split at hs
 ·rename_i m hm
  split at hs
  ·rename_i hb
   obtain ⟨k, hk⟩ := qdW hr hi hm;obtain ⟨p, hp, hz⟩ := qyV (hr.ev hx) hs;refine ⟨_, ?_, hz⟩;unfold execOp;have hb' : 0<=m/\m < (n : Int) := hb;simp only [ho, hp, hk, Instr.indexAt, asIntOf, Instr.sureAddr, Sem.run_bind, run_underlying ht, Result.andThen_ok, Sem.run_pure, qd0 he, if_pos hb', qf1 he]
  ·cases hs
 ·cases hs
theorem ze9 (hr : qz7 J F w ρ a) {o : Oper} {t e : TypeId} {x i : Operand} {x' i' : Opd} (ho : o.op = .indexAddr t x i) (hx : qo5 x = some x') (hi : qo5 i = some i') (ht : P.underlying t = some (.slice e)) {ti : TypeInfo}
  (he : P.info? e = some ti) {z : AV} (hs : qe2 ρ ρp (.soff (P.cellsOf e) x' i') = some z) : qo6 P J F w a o z := by
 have run : ∀ (m : Int) k p n c, a.eval i = .int k m->a.eval x = .slice (some p) n c->0<=m/\m < (n : Int)->(execOp a.eval o).run P w = .ok (.value (.pointer (some (p.add (m.toNat * P.cellsOf e))))) w := by
  intro m k p n c h1 h2 h3;unfold execOp;simp only [ho, h1, h2, Instr.indexAt, asIntOf, Sem.run_bind, run_underlying ht, Result.andThen_ok, Sem.run_pure, qd0 he, if_pos h3, qf1 he]
 have hv := hr.ev hx;simp only [qe2] at hs;split at hs
 ·rename_i m hm
  obtain ⟨k, hk⟩ := qdW hr hi hm;generalize hx' : ρ x' = u at hs hv;generalize hax : a.eval x = v at hv;cases hv with
  | val d _ h =>
   cases d with
   | sl s' l =>
    simp only [] at hs;split at hs
    ·rename_i hc
     split at hs
     ·rename_i q hq
      cases hs;cases h with
      | sl0 => simp at hq
      | sl _ _ g o' c vals hs' hlc hsg hF hcell hrep =>
       have hlt : m.toNat < l.length := (List.getElem?_eq_some_iff.1 hq).1;refine ⟨_, run m k _ _ _ hk hax ⟨hc.2, by omega⟩, ?_⟩;rw [Addr.add_mid];refine .val _ _ (.pt q g _ (fun j => vals m.toNat j) hF ?_ ?_)
       ·intro j d hj
        rw [Nat.add_assoc, ← hc.1];exact hcell _ _ _ _ hq hj
       ·intro j d hj
        exact hrep _ _ _ _ hq hj
     ·cases hs
    ·cases hs
   | _ => cases hs
  | row id o' n g own s' cap h hc =>
   simp only [] at hs;split at hs
   ·rename_i hb
    cases hs;refine ⟨_, run m k _ _ _ hk hax hb.2, ?_⟩;rw [Addr.add_mid, ← hb.1, ← Nat.add_mul];have := VRel.elt (J := J) (F := F) (w := w) id (o' + m.toNat) 0 g own s' cap h
    rwa [Nat.add_zero] at this
   ·cases hs
  | rowNil id own s' cap p h =>
   simp only [] at hs;split at hs
   ·rename_i hb; omega
   ·cases hs
  | rowEnd id o' g own s' cap h ho' p c =>
   simp only [] at hs;split at hs
   ·rename_i hb; omega
   ·cases hs
  | rowDead id s' o' n p c h hle hp =>
   simp only [] at hs;split at hs
   ·rename_i hb
    cases hs
    have : ∃ q, p = some q := by
     cases p with
     | none => exact absurd rfl (hp (by omega))
     | some q => exact ⟨q, rfl⟩
    obtain ⟨q, rfl⟩ := this;exact ⟨_, run m k _ _ _ hk hax hb.2, .eltDead _ _ _ _ h⟩
   ·cases hs
  | _ => cases hs
 ·cases hs
end
section
variable {P : Program} {J : Id->JI} {F : Nat->Prop} {w : World} {ρ : Opd->AV} {ρp : Bool->Opd->AV} {a : Act}
theorem zl5 (hr : qz7 J F w ρ a) {x : Operand} {x' : Opd} (hx : qo5 x = some x') {z : AV} (hs : qe2 ρ ρp (.len x') = some z) :
  ∃ p n c, a.eval x = .slice p n c/\VRel J F w z (.int .i64 n) := by
 have hv := hr.ev hx;simp only [qe2] at hs;generalize hx' : ρ x' = u at hs hv;generalize a.eval x = v at hv ⊢;cases hv with
 | val d _ h =>
  cases d with
  | sl s l =>
   cases hs;cases h with
   | sl0 => exact ⟨_, _, _, rfl, .val _ _ (.int _ _)⟩
   | sl => exact ⟨_, _, _, rfl, .val _ _ (.int _ _)⟩
  | nils s => cases hs; cases h; exact ⟨_, _, _, rfl, .val _ _ (.int _ _)⟩
  | _ => cases hs
 | row => cases hs; exact ⟨_, _, _, rfl, .val _ _ (.int _ _)⟩
 | rowNil => cases hs; exact ⟨_, _, _, rfl, .val _ _ (.int _ _)⟩
 | rowEnd => cases hs; exact ⟨_, _, _, rfl, .val _ _ (.int _ _)⟩
 | rowDead => cases hs; exact ⟨_, _, _, rfl, .val _ _ (.int _ _)⟩
 | _ => cases hs
theorem qhX (hr : qz7 J F w ρ a) {xs : List Operand} {x : Opd} {l : List Opd} (hc : qnM xs = some (x :: l)) {gt : Bool} {z : AV} (hs : qe2 ρ ρp (.mnx gt x l) = some z) (at_ : Array TypeId) (ty : TypeId) :
  ∃ v, ((if gt = true then Builtin.max_ else Builtin.min_) at_ ty (xs.map a.eval).toArray).run P w = .ok v w/\VRel J F w z v := by
 obtain ⟨hl, hrel⟩ := qfC hr hc;cases xs with
 | nil => simp at hl
 | cons y ys =>
  simp only [qe2] at hs;split at hs
  ·rename_i k n hx
   simp only [Option.map_eq_some_iff] at hs;obtain ⟨r, hm, rfl⟩ := hs;have h0 := hrel 0 y x rfl rfl;rw [hx] at h0;have h0 := h0.int;refine ⟨.int k r, ?_, .val _ _ (.int _ _)⟩;have := qnX (P := P) (J := J) (F := F) (w := w) gt (k := k) (l := l.map ρ) (vs := ys.map a.eval) ⟨by simpa using hl.symm, ?_⟩ hm
   ·cases gt
    ·simpa [Builtin.min_, h0] using this
    ·simpa [Builtin.max_, h0] using this
   ·intro j u v h1 h2
    rw [List.getElem?_map] at h1 h2;cases hu : l[j]? with
    | none => rw [hu] at h1; simp at h1
    | some p =>
     cases hv : ys[j]? with
     | none => rw [hv] at h2; simp at h2
     | some q =>
      rw [hu] at h1; rw [hv] at h2;simp at h1 h2;subst h1; subst h2;exact hrel (j + 1) q p (by simpa using hv) (by simpa using hu)
  ·cases hs
theorem zf0 (hr : qz7 J F w ρ a) {o : Oper} {t : TypeId} {x i : Operand} {x' i' : Opd} (ho : o.op = .index t x i) (hx : qo5 x = some x') (hi : qo5 i = some i') (ht : P.underlying t = some .string) {z : AV}
  (hs : qe2 ρ ρp (.idxS x' i') = some z) : qo6 P J F w a o z := by
 simp only [qe2] at hs;split at hs
 ·rename_i s n h1 h2
  split at hs
  ·rename_i hb
   cases hs;have hv := hr.ev hx;rw [h1] at hv;have hv := hv.str;obtain ⟨k, hk⟩ := qdW hr hi h2;refine ⟨_, ?_, .val _ _ (.int _ _)⟩;unfold execOp;have hlt : n.toNat < s.size := by omega
   have hget : s[n.toNat]? = some (s.data.toList.getD n.toNat 0) := by
    have e : s[n.toNat]? = some (s[n.toNat]'hlt) := getElem?_pos s n.toNat hlt
    rw [e, List.getD_eq_getElem?_getD, List.getElem?_eq_getElem (by simpa using hlt)];rfl
   simp only [ho, hv, hk, Instr.index, asIntOf, Sem.run_bind, run_underlying ht, Result.andThen_ok, Sem.run_pure, if_pos hb.1, hget]
  ·cases hs
 ·cases hs
theorem zl6 (hr : qz7 J F w ρ a) {o : Oper} {t : TypeId} {x : Operand} {lo hi mx : Option Operand} {x' : Opd} {lo' hi' : Option Opd} (ho : o.op = .slice t x lo hi mx) (hx : qo5 x = some x')
  (h1 : qiT lo = some lo') (h2 : qiT hi = some hi') (h3 : mx = none) (ht : P.underlying t = some .string) {z : AV} (hs : qe2 ρ ρp (.slS x' lo' hi') = some z) : qo6 P J F w a o z := by
 subst h3;simp only [qe2] at hs;split at hs
 ·rename_i s hx'
  simp only [Option.map_eq_some_iff] at hs;obtain ⟨⟨l, h, m⟩, hb, rfl⟩ := hs;have hv := hr.ev hx;rw [hx'] at hv;have hv := hv.str;obtain ⟨q1, q2, q3, hrun⟩ := qk6 (P := P) (w := w) (F := F) (isSlice := false) (Nat.le_refl _) hr h1 h2 (mx := none) (mx' := none) rfl (by simp) hb;refine ⟨_, ?_, .val _ _ (.str _)⟩;unfold execOp;simp only [Option.map_none] at hrun;simp only [ho, hv, Instr.sliceAt, Instr.slice, Sem.run_bind, run_underlying ht, Result.andThen_ok, Option.map_none, Option.isSome_none, Bool.false_eq_true, if_false, hrun, Sem.run_pure]
 ·cases hs
theorem zl7 (hr : qz7 J F w ρ a) {o : Oper} {x : Operand} {x' : Opd} (ho : o.op = .nilCheck x) (hx : qo5 x = some x') {z : AV} (hs : qe2 ρ ρp (.chk x') = some z) : qo6 P J F w a o z := by
 have hv := hr.ev hx
 have key : ∀ v, a.eval x = v->(∀ p, v = .pointer p->p ≠ none)->v ≠ .nilIface->v ≠ .nilFunc->(∀ n f c, v ≠ .func (.method n) f c)->(execOp a.eval o).run P w = .ok (.value v) w := by
  intro v h h1 h2 h3 h4;unfold execOp;simp only [ho, h];cases v with
  | pointer p =>
   cases p with
   | none => exact absurd rfl (h1 none rfl)
   | some p => rfl
  | nilIface => exact absurd rfl h2
  | nilFunc => exact absurd rfl h3
  | func fn f c =>
   cases fn with
   | method n => exact absurd rfl (h4 n f c)
   | _ => rfl
  | _ => rfl
 simp only [qe2] at hs;generalize hx' : ρ x' = u at hs hv;generalize hax : a.eval x = v at hv;cases hv with
 | val d _ h =>
  cases d with
  | pt cs =>
   cases hs;obtain ⟨g, o', rfl, _⟩ := qwE h;exact ⟨_, key _ hax (by simp) (by simp) (by simp) (by simp), .val _ _ h⟩
  | fn f l =>
   cases hs;cases h with
   | fn _ _ vs hl hh => exact ⟨_, key _ hax (by simp) (by simp) (by simp) (by simp), .val _ _ (.fn f l vs hl hh)⟩
  | _ => cases hs
 | box id i g own s cap h' => cases hs; exact ⟨_, key _ hax (by simp) (by simp) (by simp) (by simp), .box _ _ _ _ _ _ h'⟩
 | boxDead id i p h' => cases hs; exact ⟨_, key _ hax (by simp) (by simp) (by simp) (by simp), .boxDead _ _ _ h'⟩
 | elt id i j g own s cap h' => cases hs; exact ⟨_, key _ hax (by simp) (by simp) (by simp) (by simp), .elt _ _ _ _ _ _ _ h'⟩
 | eltDead id i j p h' => cases hs; exact ⟨_, key _ hax (by simp) (by simp) (by simp) (by simp), .eltDead _ _ _ _ h'⟩
 | clo f caps vs hl hh => cases hs; exact ⟨_, key _ hax (by simp) (by simp) (by simp) (by simp), .clo _ _ _ hl hh⟩
 | _ => cases hs
theorem zl8 (hr : qz7 J F w ρ a) {o : Oper} {x : Operand} {x' : Opd} {i : Nat} (ho : o.op = .extract x i) (hx : qo5 x = some x') {z : AV} (hs : qe2 ρ ρp (.ext x' i) = some z) : qo6 P J F w a o z := by
 have hv := hr.ev hx;simp only [qe2] at hs;generalize hx' : ρ x' = u at hs hv;generalize hax : a.eval x = v at hv
 have run : ∀ (vs : List Value) v, a.eval x = .tuple vs.toArray->vs[i]? = some v->(execOp a.eval o).run P w = .ok (.value v) w := by
  intro vs v h1 h2;unfold execOp;simp only [ho, h1, Instr.extract, List.getElem?_toArray, h2];rfl
 cases hv with
 | val d _ h =>
  cases d with
  | tup l =>
   simp only [Option.map_eq_some_iff] at hs;obtain ⟨d, hd, rfl⟩ := hs;cases h with
   | tup _ vs hl hh =>
    have hi : i < vs.length := by rw [hl]; exact (List.getElem?_eq_some_iff.1 hd).1
    exact ⟨vs[i], run vs _ hax (List.getElem?_eq_getElem hi), .val _ _ (hh i d _ hd (List.getElem?_eq_getElem hi))⟩
  | _ => cases hs
 | tup l vs hl hh =>
  have hi : i < vs.length := by rw [hl]; exact (List.getElem?_eq_some_iff.1 hs).1
  exact ⟨vs[i], run vs _ hax (List.getElem?_eq_getElem hi), hh i z _ hs (List.getElem?_eq_getElem hi)⟩
 | _ => cases hs
theorem qkG : ∀ {l : List (List DV)}, (∀ e ∈ l, e.length = 1)->∀ (j : Nat) d, l.flatten[j]? = some d->∃ e, l[j]? = some e/\e[0]? = some d
 | [], _, j, d, h => by simp at h
 | [] :: l, hl, _, _, _ => by have := hl [] List.mem_cons_self; simp at this
 | [x] :: l, hl, 0, d, h => ⟨[x], rfl, by simpa using h⟩
 | [x] :: l, hl, j + 1, d, h => by
  obtain ⟨e, h1, h2⟩ := qkG (fun e he => hl e (List.mem_cons_of_mem _ he)) j d (by simpa using h);exact ⟨e, by simpa using h1, h2⟩
 | (x :: y :: z) :: l, hl, _, _, _ => by have := hl _ List.mem_cons_self; simp at this
theorem zl9 (hr : qz7 J F w ρ a) {o : Oper} {t e : TypeId} {x : Operand} {x' : Opd} {n : Nat} (ho : o.op = .sliceToArrayPointer t x) (hx : qo5 x = some x') (ht : P.underlying t = some (.array n e))
  {l : List (List DV)} (hl : ρ x' = .val (.sl 1 l)) (hn : n<=l.length) (h0 : 0 < n) : qo6 P J F w a o (.val (.pt (l.take n).flatten)) := by
 have hv := hr.ev hx;rw [hl] at hv;have hv := hv.inv_val;generalize hu : a.eval x = u at hv;cases hv with
 | sl0 _ p c => simp at hn; omega
 | sl _ _ g o' c vals hs hc h1 hF hcell hrep =>
  refine ⟨.pointer (some ⟨g, o', none⟩), ?_, .val _ _ (.pt _ g o' (fun j => vals j 0) hF ?_ ?_)⟩
  ·unfold execOp
   simp only [ho, hu, Instr.arrayAt, Sem.run_bind, run_underlying ht, Result.andThen_ok];rw [if_neg (by omega)];rfl
  ·intro j d hd
   obtain ⟨y, h2, h3⟩ := qkG (fun y hy => hs y (List.mem_of_mem_take hy)) j d hd
   have h4 : l[j]? = some y := by
    rw [List.getElem?_take] at h2;split at h2
    ·exact h2
    ·cases h2
   have := hcell j 0 y d h4 h3;simpa using this
  ·intro j d hd
   obtain ⟨y, h2, h3⟩ := qkG (fun y hy => hs y (List.mem_of_mem_take hy)) j d hd
   have h4 : l[j]? = some y := by
    rw [List.getElem?_take] at h2;split at h2
    ·exact h2
    ·cases h2
   exact hrep j 0 y d h4 h3
theorem zf1 (hr : qz7 J F w ρ a) (hp : ∀ b, b = true->qz7 J F w (ρp b) a) {o : Oper} {p : POp} (hc : compP P o = some p) {z : AV} (hs : qe2 ρ ρp p = some z) : qo6 P J F w a o z := by
 unfold compP at hc;split at hc
 ·-- move
  rename_i x ho;simp only [Option.map_eq_some_iff] at hc;obtain ⟨x', hx, rfl⟩ := hc;simp only [qe2, Option.some.injEq] at hs;subst hs;exact ⟨a.eval x, by unfold execOp; simp only [ho]; rfl, qcN hx hr⟩
 ·rename_i x ho
  simp only [Option.map_eq_some_iff] at hc;obtain ⟨x', hx, rfl⟩ := hc;simp only [qe2, Option.some.injEq] at hs;subst hs;exact ⟨a.eval x, by unfold execOp; simp only [ho]; rfl, qcN hx hr⟩
 ·-- pick
  rename_i c x y ho;split at hc
  ·cases hc
   rename_i c' x' y' h1 h2 h3;simp only [qe2] at hs;split at hs
   ·rename_i t ht
    have hv := hr.ev h1;rw [ht] at hv;have hv := hv.bool;cases hs;refine ⟨_, ?_, pick_rel (fun e => (hp _ e).ev h2) (fun e => (hp _ (by rw [e]; rfl)).ev h3)⟩;unfold execOp;simp only [ho, hv, asBool, Sem.run_bind, Sem.run_pure, Result.andThen_ok]
   ·cases hs
  ·cases hc
 ·-- binOp
  rename_i op t x y yt ho;split at hc
  ·rename_i x' y' hx hy
   have bin : ∀ {u : Opd}, some (POp.bin op x' y') = some p->qo6 P J F w a o z := by
    intro _ hpp;cases hpp;simp only [qe2] at hs;split at hs
    ·rename_i d1 d2 h1 h2
     simp only [Option.map_eq_some_iff] at hs;obtain ⟨r, hb, rfl⟩ := hs;have v1 := hr.ev hx;have v2 := hr.ev hy;rw [h1] at v1;rw [h2] at v2;obtain ⟨g, u, hu, hr'⟩ := zl0 (P := P) (t := t) v1.inv_val v2.inv_val hb;exact qx7 (s := do eqGuard op t x y (a.eval x) (a.eval y); binOp op t (a.eval x) (a.eval y)) (by unfold execOp; simp only [ho]) (by rw [Sem.run_bind, g x y]; exact hu) (.val _ _ hr')
    ·cases hs
   have eqb : ∀ neg, some (POp.eqb neg x' y') = some p->P.underlying t = some .bool->op = (if neg then .neq else .eql)->qo6 P J F w a o z := by
    intro neg hpp ht hop;cases hpp;simp only [qe2] at hs;split at hs
    ·rename_i b c h1 h2
     cases hs;have v1 := hr.ev hx;have v2 := hr.ev hy;rw [h1] at v1;rw [h2] at v2;have v1 := v1.bool;have v2 := v2.bool;refine qx7 (s := do eqGuard op t x y (a.eval x) (a.eval y); binOp op t (a.eval x) (a.eval y)) (v := .bool (if neg then b != c else b == c)) (by unfold execOp; simp only [ho]) ?_ (.val _ _ (.bool _))
     rw [v1, v2, Sem.run_bind, qz8 op t x y (by simp) (by simp), Result.andThen_ok];subst hop;cases neg
     ·simp only [Bool.false_eq_true, if_false, binOp, Sem.run_bind, run_equal_bool w t b c ht, Result.andThen_ok, Sem.run_pure]
     ·simp only [if_true, binOp, Sem.run_bind, run_equal_bool w t b c ht, Result.andThen_ok, Sem.run_pure]; rfl
    ·cases hs
   have eqs : ∀ l neg, some (POp.eqs l neg x' y') = some p->P.eqGuardType P.depth t = false->qg1 P t = true->qs3 P 20 t = some l->op = (if neg then .neq else .eql)->qo6 P J F w a o z := by
    intro l neg hpp hg ha hk hop;cases hpp;exact zl4 hr ho hx hy hg ha hk hop hs
   split at hc
   ·exact bin (u := x') hc
   ·exact bin (u := x') hc
   ·rename_i ht
    split at hc
    ·exact eqb false hc ht rfl
    ·exact eqb true hc ht rfl
    ·cases hc
   ·rename_i fs ht
    split at hc
    ·cases hc
    ·rename_i hg
     have hg : P.eqGuardType P.depth t = false := by simpa using hg
     split at hc
     ·exact eqs _ false hc hg (by simp [qg1, ht]) (by assumption) rfl
     ·exact eqs _ true hc hg (by simp [qg1, ht]) (by assumption) rfl
     ·cases hc
   ·rename_i n e ht
    split at hc
    ·cases hc
    ·rename_i hg
     have hg : P.eqGuardType P.depth t = false := by simpa using hg
     split at hc
     ·exact eqs _ false hc hg (by simp [qg1, ht]) (by assumption) rfl
     ·exact eqs _ true hc hg (by simp [qg1, ht]) (by assumption) rfl
     ·cases hc
   ·rename_i e ht
    split at hc
    ·cases hc; exact qsK hr ho hx hy ht (neg := false) rfl hs
    ·cases hc; exact qsK hr ho hx hy ht (neg := true) rfl hs
    ·cases hc
   ·cases hc
  ·cases hc
 ·-- unOp
  rename_i op t x ho;simp only [Option.map_eq_some_iff] at hc;obtain ⟨x', hx, rfl⟩ := hc;have hv := hr.ev hx;simp only [qe2] at hs;split at hs
  ·rename_i d hd
   simp only [Option.map_eq_some_iff] at hs;obtain ⟨r, h2, rfl⟩ := hs;rw [hd] at hv;obtain ⟨u, hu, hr'⟩ := un_sound (P := P) hv.inv_val h2;exact qx7 (by unfold execOp; simp only [ho]) hu (.val _ _ hr')
  ·cases hs
 ·-- convert
  rename_i src dst x ho;split at hc
  ·cases hc
   rename_i x' k' k hx h1 h2;simp only [qe2] at hs;split at hs
   ·rename_i k0 n hn
    cases hs;have hv := hr.ev hx;rw [hn] at hv;have hv := hv.int;exact qx7 (s := convert src dst (a.eval x)) (by unfold execOp; simp only [ho]) (by rw [hv]; exact ze5 h1 h2) (.val _ _ (.int _ _))
   ·cases hs
  ·cases hc
 ·-- build
  rename_i t ps ho;split at hc
  ·rename_i z0 fs hz ht
   split at hc
   ·rename_i places hpl
    simp only [Option.map_eq_some_iff] at hc;obtain ⟨qs, hq, rfl⟩ := hc;refine qkE hr ho hz hq hs ?_
    intro cells cs hf zv hzv hzc;subst hzc;have hf' : Instr.fill (fun x => places[x]?) zv.cells ((ps.map fun (i, x) => (i, a.eval x)).toList) = some cells := by simpa using hf
    simp only [Instr.build, Sem.run_bind, hzv, Result.andThen_ok, run_underlying ht];simp [Array.mapM_eq_mapM_toList, run_places w _ _ hpl, hf]
   ·cases hc
  ·rename_i z0 n e hz ht
   split at hc
   ·cases hc
   ·rename_i hie
    simp only [Option.map_eq_some_iff] at hc;obtain ⟨qs, hq, rfl⟩ := hc;refine qkE hr ho hz hq hs ?_
    intro cells cs hf zv hzv hzc;subst hzc
    have : ∃ i, P.info? e = some i := by
     cases h : P.info? e with
     | none => simp [h] at hie
     | some i => exact ⟨i, rfl⟩
    obtain ⟨i, hi⟩ := this;rw [qf1 hi] at hf;have hf' : Instr.fill (fun x => some (x * i.size, i.size)) zv.cells ((ps.map fun (i, x) => (i, a.eval x)).toList) = some cells := by simpa using hf
    simp only [Instr.build, Sem.run_bind, hzv, Result.andThen_ok, run_underlying ht, qd0 hi];simp [hf]
  ·cases hc
 ·-- field
  rename_i t x f ho;split at hc
  ·rename_i x' fs hx ht
   split at hc
   ·rename_i fd hf
    split at hc
    ·rename_i d hd
     cases hc;simp only [qe2] at hs;obtain ⟨vs, hvs, u, hu, hz⟩ := qsJ hd (hr.ev hx) hs;refine ⟨u, ?_, hz⟩;unfold execOp;simp only [ho, hvs, Instr.field, asAgg, Sem.run_bind, run_underlying ht, hf, Result.andThen_ok, Sem.run_pure, hu]
    ·cases hc
   ·cases hc
  ·cases hc
 ·-- index
  rename_i t x i ho;split at hc
  ·rename_i x' i' hx hi ht
   cases hc;exact zf0 hr ho hx hi ht hs
  ·rename_i x' i' n e hx hi ht
   split at hc
   ·rename_i d hd
    cases hc;simp only [qe2] at hs;split at hs
    ·rename_i m hm
     split at hs
     ·rename_i hb
      obtain ⟨k, hk⟩ := qdW hr hi hm;obtain ⟨vs, hvs, u, hu, hz⟩ := qsJ hd (hr.ev hx) hs;obtain ⟨ie, hie⟩ := qj7 hd;refine ⟨u, ?_, hz⟩;unfold execOp;rw [qf1 hie] at hu;simp only [ho, hvs, hk, Instr.index, asIntOf, Sem.run_bind, run_underlying ht, Result.andThen_ok, Sem.run_pure, if_pos hb, qd0 hie, hu]
     ·cases hs
    ·cases hs
   ·cases hc
  ·cases hc
 ·-- slice
  rename_i t x lo hi mx ho;split at hc
  ·rename_i x' lo' hi' mx' e hx h1 h2 h3 ht
   split at hc
   ·cases hc
   ·rename_i hmh
    split at hc
    ·rename_i ti hti
     cases hc;exact qwF hr ho hx h1 h2 h3 ht hti (by simpa using hmh) hs
    ·cases hc
  ·rename_i x' lo' hi' hx h1 h2 h3 ht
   cases hc;exact zl6 hr ho hx h1 h2 (qsI h3) ht hs
  ·cases hc
 ·-- fieldAddr
  rename_i t x f ho;split at hc
  ·rename_i x' fs hx ht
   split at hc
   ·rename_i fd hf
    split at hc
    ·cases hc
    ·cases hc
     exact ze7 hr ho hx ht hf (by assumption) hs
   ·cases hc
  ·cases hc
 ·-- indexAddr
  rename_i t x i ho;split at hc
  ·rename_i x' i' n e hx hi ht
   split at hc
   ·rename_i ti hti
    cases hc;exact ze8 hr ho hx hi ht hti hs
   ·cases hc
  ·rename_i x' i' e hx hi ht
   split at hc
   ·rename_i ti hti
    cases hc;exact ze9 hr ho hx hi ht hti hs
   ·cases hc
  ·cases hc
 ·-- nilCheck
  rename_i x ho;simp only [Option.map_eq_some_iff] at hc;obtain ⟨x', hx, rfl⟩ := hc;exact zl7 hr ho hx hs
 ·-- extract
  rename_i x i ho;simp only [Option.map_eq_some_iff] at hc;obtain ⟨x', hx, rfl⟩ := hc;exact zl8 hr ho hx hs
 ·-- makeFunc
  rename_i f first caps ho
  split at hc
  ·rename_i hfe
   simp only [Option.map_eq_some_iff] at hc;obtain ⟨ys, hy, rfl⟩ := hc;simp only [qe2, Option.some.injEq] at hs;subst hs;obtain ⟨hl, hrel⟩ := qfC hr hy;refine ⟨.func (.func f) #[] (caps.toList.map a.eval).toArray, ?_, ?_⟩
   ·unfold execOp
    have : first = #[] := by simpa using hfe
    have e : caps.map a.eval = (caps.toList.map a.eval).toArray := by rw [← List.map_toArray, Array.toArray_toList]
    simp only [ho, this, Instr.makeFunc, e];simp
   ·refine .clo f _ _ (by simpa using hl.symm) ?_
    intro j u v h1 h2;rw [List.getElem?_map] at h1 h2;cases hu : ys[j]? with
    | none => rw [hu] at h1; simp at h1
    | some p =>
     cases hv : caps.toList[j]? with
     | none => rw [hv] at h2; simp at h2
     | some q =>
      rw [hu] at h1; rw [hv] at h2;simp only [Option.map_some, Option.some.injEq] at h1 h2;subst h1; subst h2;exact hrel j q p hv hu
  ·cases hc
 ·-- sliceToArrayPointer
  rename_i t x ho;split at hc
  ·rename_i x' n e hx ht
   cases hc;simp only [qe2] at hs;split at hs
   ·rename_i s l hl
    split at hs
    ·rename_i hcnd
     obtain ⟨rfl, hn, h0⟩ := hcnd;cases hs;exact zl9 hr ho hx ht hl hn h0
    ·cases hs
   ·cases hs
  ·cases hc
 ·-- len
  rename_i args ats ho;split at hc
  ·rename_i x t hx0 ht0
   have hargs : args = #[x] := by cases args; simp_all
   have hats : ats = #[t] := by cases ats; simp_all
   subst hargs;subst hats;split at hc
   ·rename_i x' hx ht
    cases hc;simp only [qe2] at hs;split at hs
    ·rename_i s hx'
     cases hs;have hv := hr.ev hx;rw [hx'] at hv;have hv := hv.str;refine ⟨_, ?_, .val _ _ (.int _ _)⟩;unfold execOp;simp [ho, resolve, invoke, builtin, Builtin.len_, hv, run_underlying ht, goInt]
    ·cases hs
   ·rename_i x' e hx ht
    cases hc;obtain ⟨p, n, c, h1, h2⟩ := zl5 hr hx hs;refine ⟨_, ?_, h2⟩;unfold execOp;simp [ho, resolve, invoke, builtin, Builtin.len_, h1, run_underlying ht, goInt]
   ·rename_i x' n e hx ht
    cases hc;simp only [qe2, Option.some.injEq] at hs;subst hs;refine ⟨_, ?_, .val _ _ (.int _ _)⟩;unfold execOp;simp [ho, resolve, invoke, builtin, Builtin.len_, run_underlying ht, goInt]
   ·cases hc
  ·cases hc
 ·rename_i args ats ho
  split at hc
  ·cases hc
   rename_i x l hx;obtain ⟨v, hv, hz⟩ := qhX (P := P) hr hx hs ats o.type;refine ⟨v, ?_, hz⟩;unfold execOp;simp only [Bool.false_eq_true, if_false] at hv;have e : args.map a.eval = (args.toList.map a.eval).toArray := by rw [← List.map_toArray, Array.toArray_toList]
   simp only [ho, resolve, invoke, builtin, Sem.run_bind, Sem.run_pure, Result.andThen_ok, e, hv]
  ·cases hc
 ·rename_i args ats ho
  split at hc
  ·cases hc
   rename_i x l hx;obtain ⟨v, hv, hz⟩ := qhX (P := P) hr hx hs ats o.type;refine ⟨v, ?_, hz⟩;unfold execOp;simp only [if_true] at hv;have e : args.map a.eval = (args.toList.map a.eval).toArray := by rw [← List.map_toArray, Array.toArray_toList]
   simp only [ho, resolve, invoke, builtin, Sem.run_bind, Sem.run_pure, Result.andThen_ok, e, hv]
  ·cases hc
 ·cases hc
end
end Go.AI
