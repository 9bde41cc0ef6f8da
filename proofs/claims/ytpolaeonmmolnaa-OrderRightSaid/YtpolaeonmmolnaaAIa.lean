/- The words of an abstract reading of Go's operations: abstract values, and how they stand for the model's values in a world. -/
import Derived.Calls
import Derived.WalkKit
import Derived.KernelRfl
import Derived.Laws.AppendOwn
import Derived.Laws.OwnMore
import Derived.Laws.Slices
import Derived.Laws.BytesString
import Derived.Deep.MidRow
import Derived.Orders
namespace Go.AI
set_option linter.unusedVariables false
set_option linter.unusedSimpArgs false

/-- Plain data: what a value comes to, without addresses. A list of cells is what lies one behind the other in memory. -/
inductive DV where
  | int (k : IntKind) (n : Int)
  | bool (b : Bool)
  | str (s : ByteArray)
  | sl (s : Nat) (l : List (List DV))
  | nils (s : Nat)
  | pt (cells : List DV)
  | nilp
  | nili
  | ifc (t : TypeId) (d : DV)
  | fn (f : FuncId) (caps : List DV)
  | nilf
  | agg (l : List DV)
  | tup (l : List DV)
  deriving Inhabited

/-- Does data fill one cell? -/
def DV.single : DV → Bool
  | .agg _ => false
  | .tup _ => false
  | _ => true

/-- A value stands for plain data, where the blocks in 'F' stay as they are. -/
inductive Rep (F : Nat → Prop) (w : World) : DV → Value → Prop
  | int (k : IntKind) (n : Int) : Rep F w (.int k n) (.int k n)
  | bool (b : Bool) : Rep F w (.bool b) (.bool b)
  | str (s : ByteArray) : Rep F w (.str s) (.string s)
  | sl0 (s : Nat) (a : Option Addr) (c : Nat) : Rep F w (.sl s []) (.slice a 0 c)
  | nils (s : Nat) (a : Option Addr) : Rep F w (.nils s) (.slice a 0 0)
  | sl (s : Nat) (l : List (List DV)) (g o c : Nat) (vals : Nat → Nat → Value) (hs : ∀ e ∈ l, e.length = s) (hc : l.length ≤ c)
      (h1 : ∀ e ∈ l, ∀ d ∈ e, DV.single d = true) (hF : F g) (hcell : ∀ i j e d, l[i]? = some e → e[j]? = some d → w.cell? ⟨g, o + (i * s + j), none⟩ = some (vals i j))
      (hrep : ∀ i j e d, l[i]? = some e → e[j]? = some d → Rep F w d (vals i j)) : Rep F w (.sl s l) (.slice (some ⟨g, o, none⟩) l.length c)
  | pt (cells : List DV) (g o : Nat) (vals : Nat → Value) (hF : F g) (hcell : ∀ j d, cells[j]? = some d → w.cell? ⟨g, o + j, none⟩ = some (vals j))
      (hrep : ∀ j d, cells[j]? = some d → Rep F w d (vals j)) : Rep F w (.pt cells) (.pointer (some ⟨g, o, none⟩))
  | nilp : Rep F w .nilp (.pointer none)
  | nili : Rep F w .nili .nilIface
  | ifc (t : TypeId) (d : DV) (v : Value) (h : Rep F w d v) : Rep F w (.ifc t d) (.iface t v)
  | fn (f : FuncId) (caps : List DV) (vs : List Value) (hl : vs.length = caps.length) (h : ∀ (j : Nat) d v, caps[j]? = some d → vs[j]? = some v → Rep F w d v) :
      Rep F w (.fn f caps) (.func (.func f) #[] vs.toArray)
  | nilf : Rep F w .nilf .nilFunc
  | agg (l : List DV) (vs : List Value) (hl : vs.length = l.length) (h : ∀ (j : Nat) d v, l[j]? = some d → vs[j]? = some v → Rep F w d v) : Rep F w (.agg l) (.agg vs.toArray)
  | tup (l : List DV) (vs : List Value) (hl : vs.length = l.length) (h : ∀ (j : Nat) d v, l[j]? = some d → vs[j]? = some v → Rep F w d v) : Rep F w (.tup l) (.tuple vs.toArray)

theorem Rep.mono {F F' : Nat → Prop} {w w' : World} {d : DV} {v : Value} (h : Rep F w d v) (hF : ∀ g, F g → F' g) (hw : ∀ g, F g → w'.heap[g]? = w.heap[g]?) : Rep F' w' d v := by
  induction h with
  | int k n => exact .int k n
  | bool b => exact .bool b
  | str s => exact .str s
  | sl0 s a c => exact .sl0 s a c
  | nils s a => exact .nils s a
  | sl s l g o c vals hs hc h1 hg hcell _ ih =>
    exact .sl s l g o c vals hs hc h1 (hF g hg) (fun i j e d h1 h2 => by rw [World.cell?_of_block (a := ⟨g, o + (i * s + j), none⟩) (hw g hg)]; exact hcell i j e d h1 h2) ih
  | pt cells g o vals hg hcell _ ih =>
    exact .pt cells g o vals (hF g hg) (fun j d h1 => by rw [World.cell?_of_block (a := ⟨g, o + j, none⟩) (hw g hg)]; exact hcell j d h1) ih
  | nilp => exact .nilp
  | nili => exact .nili
  | ifc t d v _ ih => exact .ifc t d v ih
  | fn f caps vs hl _ ih => exact .fn f caps vs hl ih
  | nilf => exact .nilf
  | agg l vs hl _ ih => exact .agg l vs hl ih
  | tup l vs hl _ ih => exact .tup l vs hl ih

theorem Rep.single {F : Nat → Prop} {w : World} {d : DV} {v : Value} (h : Rep F w d v) (hv : v.oneCell' = true) : d.single = true := by
  cases h <;> first | rfl | simp [Value.oneCell'] at hv

theorem Rep.one {F : Nat → Prop} {w : World} {d : DV} {v : Value} (h : Rep F w d v) (hd : d.single = true) : v.oneCell' = true := by
  cases h <;> first | rfl | simp [DV.single] at hd

/-- Does data name no memory at all? -/
def DV.scalar : DV → Bool
  | .int .. | .bool _ | .str _ | .nils _ | .nilp | .nili | .nilf => true
  | _ => false

theorem Rep.scalar {F F' : Nat → Prop} {w w' : World} {d : DV} {v : Value} (h : Rep F w d v) (hd : d.scalar = true) : Rep F' w' d v := by
  cases h <;> first | (simp [DV.scalar] at hd; done) | constructor

/-- Names of blocks: the temporary that an allocation goes to, behind the call that it is made in. -/
abbrev Id := List Nat

/-- What a name stands for: nothing yet; a block (or none, where nothing was ever in it), whether it is one's own, and how many cells an element has, how many elements it has room for; or what is over. -/
inductive JI where
  | none
  | live (g : Option Nat) (own : Bool) (s cap : Nat)
  | dead

/-- Abstract values: data; an address of a block's cell; of an element's cell; a slice of a block's elements; a row of values; several results; a function with what it captured; anything. -/
inductive AV where
  | val (d : DV)
  | box (id : Id) (o : Nat)
  | elt (id : Id) (i o : Nat)
  | row (id : Id) (s o len : Nat)
  | agg (l : List AV)
  | tup (l : List AV)
  | clo (f : FuncId) (caps : List AV)
  | may (c : Bool) (x : AV)
  | junk
  deriving Inhabited

inductive VRel (J : Id → JI) (F : Nat → Prop) (w : World) : AV → Value → Prop
  | val (d : DV) (v : Value) (h : Rep F w d v) : VRel J F w (.val d) v
  | box (id : Id) (o g : Nat) (own : Bool) (s cap : Nat) (h : J id = .live (some g) own s cap) : VRel J F w (.box id o) (.pointer (some ⟨g, o, none⟩))
  | boxDead (id : Id) (o : Nat) (p : Addr) (h : J id = .dead) : VRel J F w (.box id o) (.pointer (some p))
  | elt (id : Id) (i o g : Nat) (own : Bool) (s cap : Nat) (h : J id = .live (some g) own s cap) : VRel J F w (.elt id i o) (.pointer (some ⟨g, i * s + o, none⟩))
  | eltDead (id : Id) (i o : Nat) (p : Addr) (h : J id = .dead) : VRel J F w (.elt id i o) (.pointer (some p))
  | row (id : Id) (o len g : Nat) (own : Bool) (s cap : Nat) (h : J id = .live (some g) own s cap) (hc : o + len ≤ cap) :
      VRel J F w (.row id s o len) (.slice (some ⟨g, o * s, none⟩) len (cap - o))
  | rowNil (id : Id) (own : Bool) (s cap : Nat) (a : Option Addr) (h : J id = .live none own s cap) : VRel J F w (.row id s 0 0) (.slice a 0 0)
  | rowEnd (id : Id) (o g : Nat) (own : Bool) (s cap : Nat) (h : J id = .live (some g) own s cap) (ho : o ≠ 0) (a : Option Addr) (c : Nat) : VRel J F w (.row id s o 0) (.slice a 0 c)
  | rowDead (id : Id) (s o len : Nat) (p : Option Addr) (c : Nat) (h : J id = .dead) (hc : len ≤ c) (hp : len ≠ 0 → p ≠ none) : VRel J F w (.row id s o len) (.slice p len c)
  | agg (l : List AV) (vs : List Value) (hl : vs.length = l.length) (h : ∀ (j : Nat) d v, l[j]? = some d → vs[j]? = some v → VRel J F w d v) : VRel J F w (.agg l) (.agg vs.toArray)
  | tup (l : List AV) (vs : List Value) (hl : vs.length = l.length) (h : ∀ (j : Nat) d v, l[j]? = some d → vs[j]? = some v → VRel J F w d v) : VRel J F w (.tup l) (.tuple vs.toArray)
  | clo (f : FuncId) (caps : List AV) (vs : List Value) (hl : vs.length = caps.length) (h : ∀ (j : Nat) d v, caps[j]? = some d → vs[j]? = some v → VRel J F w d v) :
      VRel J F w (.clo f caps) (.func (.func f) #[] vs.toArray)
  | may (c : Bool) (x : AV) (v : Value) (h : c = true → VRel J F w x v) (h' : c = false → v = undef) : VRel J F w (.may c x) v
  | junk (v : Value) : VRel J F w .junk v

/-- A name that stood for something stands for it, or is over. A block that is handed out for good stays where it is. -/
def JI.le : JI → JI → Prop
  | .none, _ => True
  | .dead, .dead => True
  | .live g own s cap, .live g' own' s' cap' => g' = g ∧ s' = s ∧ cap' = cap ∧ (own' = true → own = true)
  | .live .., .dead => True
  | _, _ => False

theorem JI.le_refl (x : JI) : x.le x := by cases x <;> simp [JI.le]
theorem JI.le_trans {x y z : JI} (h : x.le y) (h' : y.le z) : x.le z := by
  cases x <;> cases y <;> cases z <;> simp_all [JI.le]

theorem JI.le_live {J J' : JI} {g : Option Nat} {own : Bool} {s cap : Nat} (h : J.le J') (e : J = .live g own s cap) : J' = .dead ∨ ∃ own', J' = .live g own' s cap := by
  subst e
  cases J' <;> simp_all [JI.le]

theorem JI.le_dead {J J' : JI} (h : J.le J') (e : J = .dead) : J' = .dead := by
  subst e
  cases J' <;> simp_all [JI.le]

theorem VRel.mono {J J' : Id → JI} {F F' : Nat → Prop} {w w' : World} {x : AV} {v : Value} (h : VRel J F w x v) (hJ : ∀ id, (J id).le (J' id)) (hF : ∀ g, F g → F' g) (hw : ∀ g, F g → w'.heap[g]? = w.heap[g]?) :
    VRel J' F' w' x v := by
  induction h with
  | val d v h => exact .val d v (h.mono hF hw)
  | box id o g own s cap h => exact (JI.le_live (hJ id) h).elim (fun h => .boxDead _ _ _ h) (fun ⟨_, h⟩ => .box _ _ _ _ _ _ h)
  | boxDead id o p h => exact .boxDead _ _ _ (JI.le_dead (hJ id) h)
  | elt id i o g own s cap h => exact (JI.le_live (hJ id) h).elim (fun h => .eltDead _ _ _ _ h) (fun ⟨_, h⟩ => .elt _ _ _ _ _ _ _ h)
  | eltDead id i o p h => exact .eltDead _ _ _ _ (JI.le_dead (hJ id) h)
  | row id o len g own s cap h hc => exact (JI.le_live (hJ id) h).elim (fun h => .rowDead _ _ _ _ _ _ h (by omega) (by simp)) (fun ⟨_, h⟩ => .row _ _ _ _ _ _ _ h hc)
  | rowNil id own s cap a h => exact (JI.le_live (hJ id) h).elim (fun h => .rowDead _ _ _ _ _ _ h (Nat.le_refl _) (by simp)) (fun ⟨_, h⟩ => .rowNil _ _ _ _ _ h)
  | rowEnd id o g own s cap h ho a c => exact (JI.le_live (hJ id) h).elim (fun h => .rowDead _ _ _ _ _ _ h (Nat.zero_le _) (by simp)) (fun ⟨_, h⟩ => .rowEnd _ _ _ _ _ _ h ho _ _)
  | rowDead id s o len p c h hc hp => exact .rowDead _ _ _ _ _ _ (JI.le_dead (hJ id) h) hc hp
  | agg l vs hl _ ih => exact .agg l vs hl ih
  | tup l vs hl _ ih => exact .tup l vs hl ih
  | clo f caps vs hl _ ih => exact .clo f caps vs hl ih
  | may c x v _ h' ih => exact .may c x v ih h'
  | junk v => exact .junk v

/-- A block: cells of one's own; elements of one's own; cells, elements that stay as they are; what is over. -/
inductive Blk where
  | box (cells : List AV)
  | row (s : Nat) (elems : List (List DV))
  | fbox (cells : List DV)
  | frow (s : Nat) (elems : List (List DV))
  | dead

abbrev Hp := Id → Option Blk

/-- What a block has is what is there. -/
inductive BRel (J : Id → JI) (F : Nat → Prop) (w : World) (id : Id) : Blk → Prop
  | box (cells : List AV) (g s cap : Nat) (cur : Array Value) (e : TypeId) (h : J id = .live (some g) true s cap) (hg : w.heap[g]? = some (.cells cur e (0, 0))) (hs : cur.size = cells.length)
      (hc : ∀ (j : Nat) x v, cells[j]? = some x → cur[j]? = some v → VRel J F w x v) (h1 : ∀ (j : Nat) v, cur[j]? = some v → v.oneCell' = true) : BRel J F w id (.box cells)
  | row (s : Nat) (elems : List (List DV)) (g cap : Nat) (cur : Array Value) (e : TypeId) (h : J id = .live (some g) true s cap) (hg : w.heap[g]? = some (.cells cur e (0, 0))) (hs : cur.size = cap * s)
      (hn : elems.length ≤ cap) (hm : cap ≤ maxLen) (he : ∀ x ∈ elems, x.length = s) (hc : ∀ (i j : Nat) x d v, elems[i]? = some x → x[j]? = some d → cur[i * s + j]? = some v → Rep F w d v)
      (h1 : ∀ (j : Nat) v, cur[j]? = some v → v.oneCell' = true) : BRel J F w id (.row s elems)
  | rowNil (s cap : Nat) (h : J id = .live none true s cap) : BRel J F w id (.row s [])
  | fbox (cells : List DV) (g : Nat) (own : Bool) (s cap : Nat) (vals : Nat → Value) (h : J id = .live (some g) own s cap) (ho : own = false) (hF : F g) (hcell : ∀ (j : Nat) d, cells[j]? = some d → w.cell? ⟨g, j, none⟩ = some (vals j))
      (hrep : ∀ (j : Nat) d, cells[j]? = some d → Rep F w d (vals j)) : BRel J F w id (.fbox cells)
  | frow (s : Nat) (elems : List (List DV)) (g : Nat) (own : Bool) (cap : Nat) (vals : Nat → Nat → Value) (h : J id = .live (some g) own s cap) (ho : own = false) (hF : F g) (he : ∀ x ∈ elems, x.length = s) (h1 : ∀ x ∈ elems, ∀ d ∈ x, DV.single d = true) (hn : elems.length ≤ cap)
      (hcell : ∀ i j x d, elems[i]? = some x → x[j]? = some d → w.cell? ⟨g, i * s + j, none⟩ = some (vals i j)) (hrep : ∀ i j x d, elems[i]? = some x → x[j]? = some d → Rep F w d (vals i j)) : BRel J F w id (.frow s elems)
  | frowNil (s cap : Nat) (own : Bool) (h : J id = .live none own s cap) : BRel J F w id (.frow s [])
  | dead (h : J id = .dead) : BRel J F w id .dead

end Go.AI
