/- An abstract reading of Go code: part LB of the library. No condition. -/
import Derived.Test.YtganbdbpkoggmaaDoorLA
import Derived.Laws.MakeOwn
import Derived.Laws.IdiomStrings
import Derived.Tactics
set_option linter.unusedVariables false
set_option linter.unusedSimpArgs false
namespace Go.AI
inductive Con where
 | none
 | val (spec : List DV->Option DV)
 | fresh (s : Nat) (spec : List DV->Option (List (List DV)))
 | shared (spec : Id->List AV->Hp->Option (AV × Hp))
structure St where
 env : Env
 H : Hp
def DV.flat : DV->Bool
 | .agg l => l.all DV.scalar
 | .tup l => l.all fun
  | .agg l => l.all DV.scalar
  | d => d.scalar
 | d => d.scalar
def DV.norm1 : DV->DV
 | .nils _ => .sl 0 []
 | .sl _ [] => .sl 0 []
 | d => d
def DV.norm : DV->DV
 | .agg l => .agg (l.map DV.norm1)
 | d => d.norm1
def upd (H : Hp) (id : Id) (b : Option Blk) : Hp := fun i => if i = id then b else H i
def mkH : List (Id × Blk)->Hp
 | [] => fun _ => none
 | (k, b) :: l => fun id => if k = id then some b else mkH l id
def qkH : Option Blk->Option (List (List DV) × Bool)
 | some (.box cells) => (match qbH cells with
  | some ds => if ds.length<=65536 then some (ds.map fun d => [d], true) else none
  | none => none)
 | some (.fbox ds) => if ds.all DV.single = true then some (ds.map fun d => [d], false) else none
 | _ => none
mutual
/-- The data that a value comes to, and the blocks that it lies in. -/
def qz9 (H : Hp) : Nat->AV->Option (DV × List Id)
 | 0, _ => none
 | k + 1, x => match x with
  | .val d => some (d.norm, [])
  | .row id s o n => match H id with
   | some (.row s' es) => if s' = s/\o + n<=es.length then some (DV.norm1 (.sl s ((es.drop o).take n)), [id]) else none
   | some (.frow s' es) => if s' = s/\o + n<=es.length then some (DV.norm1 (.sl s ((es.drop o).take n)), []) else none
   | b => (match qkH b with
    | some (es, own) => if s = 1/\o + n<=es.length then some (DV.norm1 (.sl s ((es.drop o).take n)), if own then [id] else []) else none
    | none => none)
  | .agg l => (qf5 H k l).map fun (ds, ids) => (.agg ds, ids)
  | .clo f l => (qf5 H k l).map fun (ds, ids) => (.fn f ds, ids)
  | .box id o => match H id with
   | some (.box cells) => (qf5 H k cells).map fun (ds, ids) => (.pt (ds.drop o), id :: ids)
   | some (.fbox cells) => some (.pt (cells.drop o), [])
   | _ => none
  | .elt id i o => match H id with
   | some (.frow _ es) => (es[i]?).map fun e => (.pt (e.drop o), [])
   | some (.row _ es) => (es[i]?).map fun e => (.pt (e.drop o), [id])
   | _ => none
  | _ => none
def qf5 (H : Hp) : Nat->List AV->Option (List DV × List Id)
 | 0, _ => none
 | _ + 1, [] => some ([], [])
 | k + 1, x :: l => match qz9 H k x, qf5 H k l with
  | some (d, a), some (ds, b) => some (d :: ds, a ++ b)
  | _, _ => none
end
def qdX (H : Hp) (ids : List Id) (i : Id) : Bool :=
 match H i with
 | some (.box cells) => (match qf5 H 99 cells with
  | some (_, more) => more.all ids.contains
  | none => false)
 | some (.fns _ _) => false
 | _ => true
def qsL (H : Hp) : Option Blk->Option Blk
 | some (.row s es) => some (.frow s es)
 | some (.box cells) => (match qf5 H 99 cells with
  | some (ds, _) => some (.fbox ds)
  | none => none)
 | b => b
def fix (H : Hp) : List Id->Option Hp
 | [] => some H
 | id :: ids => if (id :: ids).all (qdX H (id :: ids)) then some (fun i => if (id :: ids).contains i then qsL H (H i) else H i) else none
def elems (H : Hp) (s : Nat) : AV->Option (List (List DV))
 | .val (.sl s' l) => if s' = s\/l = [] then some l else none
 | .val (.nils _) => some []
 | .row id s' o n => if s' = s then (match H id with
  | some (.row s'' es) | some (.frow s'' es) => if s'' = s/\o + n<=es.length then some ((es.drop o).take n) else none
  | _ => none) else none
 | _ => none
def qdL : List (List DV)->Option (List UInt8)
 | [] => some []
 | [.int .u8 n] :: l => (qdL l).map (UInt8.ofNat n.toNat :: ·)
 | _ => none
def qm7 (s : ByteArray) : List (List DV) := s.data.toList.map fun b => [.int .u8 b.toNat]
def AV.single : AV->Bool
 | .val d => d.single
 | .box .. | .elt .. | .row .. | .clo .. => true
 | _ => false
def qk1 (H : Hp) (n : Nat) (agg : Bool) : AV->Option AV
 | .val (.pt cs) => if n<=cs.length then ql8 agg (cs.take n) else none
 | .box id o => match H id with
  | some (.box cells) => if o + n<=cells.length then qw7 agg ((cells.drop o).take n) else none
  | some (.fbox cells) => if o + n<=cells.length then ql8 agg ((cells.drop o).take n) else none
  | _ => none
 | .elt id i o => match H id with
  | some (.row _ es) | some (.frow _ es) => match es[i]? with
   | some e => if o + n<=e.length then ql8 agg ((e.drop o).take n) else none
   | none => none
  | some (.fns _ es) => match es[i]? with
   | some e => if o + n<=e.length then qw7 agg ((e.drop o).take n) else none
   | none => none
  | _ => none
 | _ => none
def qwG (spec : List DV->Option DV) (H : Hp) (args : List AV) : Option (AV × List Id) :=
 match qf5 H 99 args with
 | some (ds, ids) => match spec ds with
  | some r => some (.val r, if r.flat then [] else ids)
  | none => none
 | none => none
def qiU (H : Hp) (ρ : Opd->AV) : ROp->Option AV
 | .load n agg x => qk1 H n agg (ρ x)
 | .b2s x => ((elems H 1 (ρ x)).bind qdL).map fun l => .val (.str ⟨l.toArray⟩)
 | .s2b x => match ρ x with
  | .val (.str b) => some (.val (.sl 1 (qm7 b)))
  | _ => none
 | .sla n x lo hi => match ρ x with
  | .box b 0 => (match H b with
   | some (.box cells) => if cells.length = n then (qm6 n ρ lo hi none).map fun (l, h, _) => .row b 1 l (h - l) else none
   | _ => none)
  | _ => none
 | _ => none
def qt8 (C : FuncId->Con) (H : Hp) (id : Id) (f : FuncId) (args : List AV) : Option (AV × Hp) :=
 match C f with
 | .val spec => match qwG spec H args with
  | some (x, ids) => (fix H ids).map fun H' => (x, H')
  | none => none
 | .fresh s spec => match qf5 H 99 args with
  | some (ds, ids) => match spec ds with
   | some es => if H id ≠ none\/ids.contains id then none else (fix H (if es.all (·.all DV.scalar) then [] else ids)).map fun H' => (.row id s 0 es.length, upd H' id (some (.row s es)))
   | none => none
  | none => none
 | .shared spec => spec id args H
 | .none => none
def ql9 (H : Hp) (ρ : Opd->AV) (s : Nat) : List (List DV)->List (Nat × Opd)->Option (List (List DV))
 | es, [] => some es
 | es, (i, x) :: l => match (ρ x).cells with
  | some cs => match qf5 H 99 cs with
   | some (ds, []) => if ds.length = s/\i < es.length/\ds.all DV.single then ql9 H ρ s (es.set i ds) l else none
   | _ => none
  | none => none
def qm9 (ρ : Opd->AV) (s : Nat) : List (List AV)->List (Nat × Opd)->Option (List (List AV))
 | es, [] => some es
 | es, (i, x) :: l => match (ρ x).cells with
  | some cs => if cs.length = s/\i < es.length/\cs.all AV.single = true then qm9 ρ s (es.set i cs) l else none
  | none => none
def qfF (C : FuncId->Con) (H : Hp) (ρ : Opd->AV) (id : Id) : AlOp->Option (AV × Blk)
 | .alloc zero => if zero.all DV.single then some (.box id 0, .box (zero.map .val)) else none
 | .bx x => match (ρ x).cells with
  | some cs => if cs.all AV.single then some (.box id 0, .box cs) else none
  | none => none
 | .bsl s n zero ps => if !(zero.all DV.single)\/n > 4611686018427387904 then none else (ql9 H ρ s (List.replicate n (zero.map DV.norm1)) ps).map fun es => (.row id s 0 n, .row s es)
 | .bsf s n zero ps => if !(zero.all DV.single)\/n > 4611686018427387904 then none else (qm9 ρ s (List.replicate n (zero.map .val)) ps).map fun es => (.row id s 0 n, .fns s es)
 | .mks s bytes zero n c => match (ρ n).num, (ρ c).num with
  | some n, some c => if 0<=n/\n = c/\(bytes : Int) * n<=281474976710656/\n<=4611686018427387904/\zero.all DV.single/\zero.length = s then some (.row id s 0 n.toNat, .row s (List.replicate n.toNat (zero.map DV.norm1))) else none
  | _, _ => none
def qyX (es : List (List DV)) (i o : Nat) (ds : List DV) : Option (List (List DV)) :=
 match es[i]? with
 | some e => if o + ds.length<=e.length then some (es.set i (splice e o ds)) else none
 | none => none
def qr3 (H : Hp) (id : Id) (s bytes : Nat) (ys : List (List DV)) : AV->Option (AV × Hp)
 | .val (.nils _) => if ys.length * bytes<=140737488355328/\ys.length<=maxLen then some (.row id s 0 ys.length, upd H id (some (.row s ys))) else none
 | .row b s' o n => (match H b with
  | some (.row s'' es) => if o = 0/\s' = s/\s'' = s/\n<=es.length/\(n + ys.length) * bytes<=140737488355328/\n + ys.length<=maxLen then
    some (.row id s 0 (n + ys.length), upd (upd H b (some .dead)) id (some (.row s (es.take n ++ ys)))) else none
  | _ => none)
 | _ => none
def qe6 : Option Blk->Bool
 | some (.box _) => true
 | some (.fbox _) => true
 | _ => false
def qhY (H : Hp) : List Id->Bool
 | [] => false
 | i :: l => qe6 (H i) || qhY H l
theorem qkI {H : Hp} {ids : List Id} (h : ∀ i ∈ ids, qe6 (H i) = false) : ¬ qhY H ids = true := by
 induction ids with
 | nil => simp [qhY]
 | cons i l ih =>
  simp only [qhY, Bool.or_eq_true, not_or];exact ⟨by rw [h i List.mem_cons_self]; simp, ih fun j hj => h j (List.mem_cons_of_mem _ hj)⟩
def qdE (C : FuncId->Con) (H : Hp) (ρ : Opd->AV) (ns id : Id) : WOp->Option (AV × Hp)
 | .store n x v => match (ρ v).cells with
  | some cs => if cs.length = n/\cs.all AV.single then (match ρ x with
   | .box b o => (match H b with
    | some (.box cells) => if o + n<=cells.length then some (.val (.tup []), upd H b (some (.box (splice cells o cs)))) else none
    | _ => none)
   | .elt b i o => (match H b, qf5 H 99 cs with
    | some (.row s es), some (ds, ids) => (match qyX es i o ds, fix H ids with
     | some es', some H' => if (ids.contains b || qhY H ids) = true then none else some (.val (.tup []), upd H' b (some (.row s es')))
     | _, _ => none)
    | _, _ => none)
   | _ => none) else none
  | none => none
 | .app s bytes str x y => match (if str then (match ρ y with | .val (.str b) => some (qm7 b) | _ => none) else elems H s (ρ y)) with
  | some ys => if H id ≠ none then none else qr3 H id s bytes ys (ρ x)
  | none => none
 | .clr s zero x => match ρ x with
  | .val (.nils _) => some (.val (.tup []), H)
  | .row b s' o n => (match H b with
   | some (.row s'' es) => if s' = s/\s'' = s/\zero.length = s/\zero.all DV.single = true/\o + n<=es.length then
     some (.val (.tup []), upd H b (some (.row s (es.take o ++ List.replicate n (zero.map DV.norm1) ++ es.drop (o + n))))) else none
   | _ => none)
  | _ => none
 | .s2s x => match ρ x with
  | .row b s o n => (match H b with
   | some (.row s' es) => if n ≠ 0/\s' = s then some (.row b s o n, upd H b (some (.frow s' es))) else none
   | _ => none)
  | _ => none
def qe7 (C : FuncId->Con) (H : Hp) (ρ : Opd->AV) (ρp : Bool->Opd->AV) (ns id : Id) : AOp->Option (AV × Hp)
 | .p o => (qe2 ρ ρp o).map fun v => (v, H)
 | .r (.call f args) => qt8 C H id f (args.map ρ)
 | .r (.callv x args) => match ρ x with
  | .val (.fn f caps) => qt8 C H id f (args.map ρ ++ caps.map .val)
  | .clo f caps => qt8 C H id f (args.map ρ ++ caps)
  | _ => none
 | .r o => (qiU H ρ o).map fun v => (v, H)
 | .a o => if H id ≠ none then none else (qfF C H ρ id o).map fun (x, b) => (x, upd H id (some b))
 | .w o => qdE C H ρ ns id o
def Own (J : Id->JI) (g : Nat) : Prop := ∃ id s cap, J id = .live (some g) true s cap
structure TabsD where
 L : List (Nat × Obj)
variable {tabI : Inhabited TabsD}
def qbK [Inhabited TabsD] (F : Nat->Prop) (w : World) : Prop := ∀ p ∈ (default : TabsD).L, F p.1/\w.heap[p.1]? = some p.2
theorem qbK.mono {F F' : Nat->Prop} {w w' : World} (h : qbK F w) (hF : ∀ g, F g->F' g) (hw : ∀ g, F g->w'.heap[g]? = w.heap[g]?) : qbK F' w' := fun p hp => ⟨hF _ (h p hp).1, (hw _ (h p hp).1).trans (h p hp).2⟩
structure HRel [Inhabited TabsD] (J : Id->JI) (F : Nat->Prop) (w : World) (H : Hp) : Prop where
 blk : ∀ id b, H id = some b->BRel J F w id b
 none : ∀ id, H id = .none->J id = .none
 inj : ∀ id id' g o s c o' s' c', J id = .live (some g) o s c->J id' = .live (some g) o' s' c'->id = id'
 own : ∀ g, Own J g->¬ F g
 live : ∀ id g o s c, J id = .live (some g) o s c->g < w.heap.size
 fsz : ∀ g, F g->g < w.heap.size
 tab : qbK F w
structure Ext (J : Id->JI) (F : Nat->Prop) (w : World) (J' : Id->JI) (F' : Nat->Prop) (w' : World) : Prop where
 le : ∀ id, (J id).le (J' id)
 fle : ∀ g, F g->F' g
 fnew : ∀ g, F' g->F g\/Own J g\/w.heap.size<=g
 onew : ∀ g, Own J' g->Own J g\/w.heap.size<=g
 heap : ∀ g, g < w.heap.size->¬ Own J g->w'.heap[g]? = w.heap[g]?
 size : w.heap.size<=w'.heap.size
 os : w'.os = w.os
 tape : w'.tape = w.tape
 output : w'.output = w.output
section
variable {J J' J'' : Id->JI} {F F' F'' : Nat->Prop} {w w' w'' : World} {H : Hp}
theorem Ext.refl (J : Id->JI) (F : Nat->Prop) (w : World) : Ext J F w J F w :=
 ⟨fun _ => JI.le_refl _, fun _ h => h, fun _ h => .inl h, fun _ h => .inl h, fun _ _ _ => rfl, Nat.le_refl _, rfl, rfl, rfl⟩
theorem Ext.trans (h : Ext J F w J' F' w') (h' : Ext J' F' w' J'' F'' w'') : Ext J F w J'' F'' w'' where
 le id := JI.le_trans (h.le id) (h'.le id)
 fle g hg := h'.fle g (h.fle g hg)
 fnew g hg := by
  rcases h'.fnew g hg with h1 | h1 | h1
  ·exact h.fnew g h1
  ·rcases h.onew g h1 with h2 | h2
   ·exact .inr (.inl h2)
   ·exact .inr (.inr h2)
  ·exact .inr (.inr (Nat.le_trans h.size h1))
 onew g hg := by
  rcases h'.onew g hg with h1 | h1
  ·exact h.onew g h1
  ·exact .inr (Nat.le_trans h.size h1)
 heap g hg ho := by
  rw [h'.heap g (Nat.lt_of_lt_of_le hg h.size) (fun h1 => by
   rcases h.onew g h1 with h2 | h2
   ·exact ho h2
   ·omega), h.heap g hg ho]
 size := Nat.le_trans h.size h'.size
 os := h'.os.trans h.os
 tape := h'.tape.trans h.tape
 output := h'.output.trans h.output
theorem HRel.fixed (h : HRel J F w H) (e : Ext J F w J' F' w') : ∀ g, F g->w'.heap[g]? = w.heap[g]? := fun g hg => e.heap g (h.fsz g hg) (fun ho => h.own g ho hg)
theorem VRel.ext {x : AV} {v : Value} (hv : VRel J F w x v) (h : HRel J F w H) (e : Ext J F w J' F' w') : VRel J' F' w' x v := hv.mono e.le e.fle (h.fixed e)
theorem qcL.ext {env : Env} {tmps : Array Value} (hv : qcL J F w env tmps) (h : HRel J F w H) (e : Ext J F w J' F' w') : qcL J' F' w' env tmps :=
 ⟨hv.1, fun t v h1 => (hv.2.1 t v h1).ext h e, hv.2.2⟩
theorem BRel.mono {id : Id} {b : Blk} (h : BRel J F w id b) (hJ : ∀ id, (J id).le (J' id)) (hid : J' id = J id) (hF : ∀ g, F g->F' g) (hw : ∀ g, F g->w'.heap[g]? = w.heap[g]?)
  (ho : ∀ g s c, J id = .live (some g) true s c->w'.heap[g]? = w.heap[g]?) : BRel J' F' w' id b := by
 cases h with
 | box cells g s cap cur e h hg hs hc h1 hk =>
  exact .box cells g s cap cur e (hid.trans h) ((ho _ _ _ h).trans hg) hs (fun j x v h2 h3 => (hc j x v h2 h3).mono hJ hF hw) h1 hk
 | row s es g cap cur e h hg hs hn hm he hc h1 =>
  exact .row s es g cap cur e (hid.trans h) ((ho _ _ _ h).trans hg) hs hn hm he (fun i j x d v h2 h3 h4 => (hc i j x d v h2 h3 h4).mono hF hw) h1
 | rowNil s cap h => exact .rowNil s cap (hid.trans h)
 | fbox cells g own s cap vals h hown hFg hcell hrep hk =>
  exact .fbox cells g own s cap vals (hid.trans h) hown (hF g hFg) (fun j d h2 => by rw [World.cell?_of_block (a := ⟨g, j, none⟩) (hw g hFg)]; exact hcell j d h2) (fun j d h2 => (hrep j d h2).mono hF hw) hk
 | frow s es g own cap vals h hown hFg he hsg hn hcell hrep =>
  exact .frow s es g own cap vals (hid.trans h) hown (hF g hFg) he hsg hn (fun i j x d h2 h3 => by rw [World.cell?_of_block (a := ⟨g, i * s + j, none⟩) (hw g hFg)]; exact hcell i j x d h2 h3)
   (fun i j x d h2 h3 => (hrep i j x d h2 h3).mono hF hw)
 | frowNil s cap own h => exact .frowNil s cap own (hid.trans h)
 | fns s es g cap cur e h hg hs hn he hc h1 =>
  exact .fns s es g cap cur e (hid.trans h) ((ho _ _ _ h).trans hg) hs hn he (fun i j x y v h2 h3 h4 => (hc i j x y v h2 h3 h4).mono hJ hF hw) h1
 | dead h => exact .dead (hid.trans h)
def qaA (J : Id->JI) (id : Id) (x : JI) : Id->JI := fun i => if i = id then x else J i
theorem qa6 (J : Id->JI) (id : Id) (x : JI) : qaA J id x id = x := by simp [qaA]
theorem qa7 (J : Id->JI) {id i : Id} (x : JI) (h : i ≠ id) : qaA J id x i = J i := by simp [qaA, h]
theorem qc0 (H : Hp) (id : Id) (b : Option Blk) : upd H id b id = b := by simp [upd]
theorem qc1 (H : Hp) {id i : Id} (b : Option Blk) (h : i ≠ id) : upd H id b i = H i := by simp [upd, h]
theorem heap_alloc (w : World) (o : Obj) (g : Nat) (h : g < w.heap.size) : (w.alloc o).heap[g]? = w.heap[g]? := by
 simp only [World.alloc, Array.getElem?_push];rw [if_neg (by omega)]
theorem qh9 (J : Id->JI) (F : Nat->Prop) (w : World) : Ext J F w J F w.drew :=
 ⟨fun _ => JI.le_refl _, fun _ h => h, fun _ h => .inl h, fun _ h => .inl h, fun _ _ _ => rfl, Nat.le_refl _, rfl, rfl, rfl⟩
theorem HRel.drew (h : HRel J F w H) : HRel J F w.drew H :=
 ⟨fun id b hb => (h.blk id b hb).mono (fun _ => JI.le_refl _) rfl (fun _ h => h) (fun _ _ => rfl) (fun _ _ _ _ => rfl), h.none, h.inj, h.own, h.live, h.fsz, h.tab.mono (fun _ h => h) (fun _ _ => rfl)⟩
theorem qkJ {id : Id} {x : JI} {g : Nat} (h : Own (qaA J id x) g) : Own J g\/∃ s c, x = .live (some g) true s c := by
 obtain ⟨i, s, c, hi⟩ := h;by_cases e : i = id
 ·subst e; rw [qa6] at hi; exact .inr ⟨s, c, hi⟩
 ·rw [qa7 _ _ e] at hi; exact .inl ⟨i, s, c, hi⟩
theorem qkK (h : HRel J F w H) (id : Id) (hid : H id = none) (o : Obj) (s c : Nat) (b : Blk)
  (hb : ∀ J' , J' = qaA J id (.live (some w.heap.size) true s c)->(∀ x v, VRel J F w x v->VRel J' F (w.alloc o) x v)->(∀ x v, Rep F w x v->Rep F (w.alloc o) x v)->BRel J' F (w.alloc o) id b) :
  HRel (qaA J id (.live (some w.heap.size) true s c)) F (w.alloc o) (upd H id (some b))/\Ext J F w (qaA J id (.live (some w.heap.size) true s c)) F (w.alloc o) := by
 have hJn := h.none id hid
 have hle : ∀ i, (J i).le (qaA J id (.live (some w.heap.size) true s c) i) := by
  intro i;by_cases e : i = id
  ·subst e; rw [hJn]; exact trivial
  ·rw [qa7 _ _ e]; exact JI.le_refl _
 have hfix : ∀ g, F g->(w.alloc o).heap[g]? = w.heap[g]? := fun g hg => heap_alloc w o g (h.fsz g hg)
 refine ⟨⟨?_, ?_, ?_, ?_, ?_, ?_, h.tab.mono (fun _ h => h) hfix⟩, ⟨hle, fun _ h => h, fun _ h => .inl h, ?_, fun g hg _ => heap_alloc w o g hg, by simp, rfl, rfl, rfl⟩⟩
 ·intro i bb hbb
  by_cases e : i = id
  ·subst e
   rw [qc0] at hbb;cases hbb;exact hb _ rfl (fun x v hv => hv.mono hle (fun _ h => h) hfix) (fun x v hv => hv.mono (fun _ h => h) hfix)
  ·rw [qc1 _ _ e] at hbb
   exact (h.blk i bb hbb).mono hle (qa7 _ _ e) (fun _ h => h) hfix (fun g s' c' hl => heap_alloc w o g (h.live _ _ _ _ _ hl))
 ·intro i hi
  by_cases e : i = id
  ·subst e; rw [qc0] at hi; cases hi
  ·rw [qc1 _ _ e] at hi; rw [qa7 _ _ e]; exact h.none i hi
 ·intro i i' g o1 s1 c1 o2 s2 c2 h1 h2
  by_cases e : i = id
  ·by_cases e' : i' = id
   ·rw [e, e']
   ·subst e
    rw [qa6] at h1;rw [qa7 _ _ e'] at h2;cases h1;have := h.live _ _ _ _ _ h2;omega
  ·by_cases e' : i' = id
   ·subst e'
    rw [qa6] at h2;rw [qa7 _ _ e] at h1;cases h2;have := h.live _ _ _ _ _ h1;omega
   ·rw [qa7 _ _ e] at h1
    rw [qa7 _ _ e'] at h2;exact h.inj _ _ _ _ _ _ _ _ _ h1 h2
 ·intro g hg
  rcases qkJ hg with h1 | ⟨s', c', h1⟩
  ·exact h.own g h1
  ·cases h1
   intro hF;have := h.fsz _ hF;omega
 ·intro i g o1 s1 c1 h1
  by_cases e : i = id
  ·subst e; rw [qa6] at h1; cases h1; simp
  ·rw [qa7 _ _ e] at h1; have := h.live _ _ _ _ _ h1; simp; omega
 ·intro g hg; have := h.fsz g hg; simp; omega
 ·intro g hg
  rcases qkJ hg with h1 | ⟨s', c', h1⟩
  ·exact .inl h1
  ·cases h1; exact .inr (Nat.le_refl _)
theorem qgR (h : HRel J F w H) (id : Id) (hid : H id = none) (s c : Nat) :
  HRel (qaA J id (.live none true s c)) F w (upd H id (some (.row s [])))/\Ext J F w (qaA J id (.live none true s c)) F w := by
 have hJn := h.none id hid
 have hle : ∀ i, (J i).le (qaA J id (.live none true s c) i) := by
  intro i;by_cases e : i = id
  ·subst e; rw [hJn]; exact trivial
  ·rw [qa7 _ _ e]; exact JI.le_refl _
 have hown : ∀ g, Own (qaA J id (.live none true s c)) g->Own J g := by
  intro g hg;rcases qkJ hg with h1 | ⟨s', c', h1⟩
  ·exact h1
  ·cases h1
 refine ⟨⟨?_, ?_, ?_, fun g hg => h.own g (hown g hg), ?_, h.fsz, h.tab⟩, ⟨hle, fun _ h => h, fun _ h => .inl h, fun g hg => .inl (hown g hg), fun _ _ _ => rfl, Nat.le_refl _, rfl, rfl, rfl⟩⟩
 ·intro i bb hbb
  by_cases e : i = id
  ·subst e
   rw [qc0] at hbb;cases hbb;exact .rowNil s c (qa6 _ _ _)
  ·rw [qc1 _ _ e] at hbb
   exact (h.blk i bb hbb).mono hle (qa7 _ _ e) (fun _ h => h) (fun _ _ => rfl) (fun _ _ _ _ => rfl)
 ·intro i hi
  by_cases e : i = id
  ·subst e; rw [qc0] at hi; cases hi
  ·rw [qc1 _ _ e] at hi; rw [qa7 _ _ e]; exact h.none i hi
 ·intro i i' g o1 s1 c1 o2 s2 c2 h1 h2
  by_cases e : i = id
  ·subst e; rw [qa6] at h1; cases h1
  ·by_cases e' : i' = id
   ·subst e'; rw [qa6] at h2; cases h2
   ·rw [qa7 _ _ e] at h1
    rw [qa7 _ _ e'] at h2;exact h.inj _ _ _ _ _ _ _ _ _ h1 h2
 ·intro i g o1 s1 c1 h1
  by_cases e : i = id
  ·subst e; rw [qa6] at h1; cases h1
  ·rw [qa7 _ _ e] at h1; exact h.live _ _ _ _ _ h1
end
section
variable {P : Program} {J : Id->JI} {F : Nat->Prop} {w : World} {H : Hp} {ρ : Opd->AV} {a : Act}
theorem qyY {t : TypeId} {d : TypeDesc} (ht : P.underlying t = some d) {g o : Nat} {vs : List Value} (hv : ∀ (j : Nat) v, vs[j]? = some v->w.cell? ⟨g, o + j, none⟩ = some v) (hl : vs.length = P.cellsOf t) {x : AV}
  (hx : if qg1 P t = true then VRel J F w x (.agg vs.toArray) else ∃ v, vs = [v]/\VRel J F w x v) :
  ∃ v, (Instr.loadAt t (.pointer (some ⟨g, o, none⟩))).run P w = .ok v w/\VRel J F w x v := by
 obtain ⟨i, hi⟩ := qj7 ht;rw [qf1 hi] at hl;unfold Instr.loadAt Instr.sureAddr loadVar;simp only [Sem.run_bind, Sem.run_pure, Result.andThen_ok, qsF ht];cases ha : qg1 P t
 ·rw [ha] at hx
  simp only [Bool.false_eq_true, if_false] at hx ⊢;obtain ⟨v, rfl, hx⟩ := hx;refine ⟨v, ?_, hx⟩;have := hv 0 v rfl;rw [Nat.add_zero] at this;simp [run_load, this]
 ·rw [ha] at hx
  simp only [if_true] at hx ⊢;refine ⟨_, ?_, hx⟩;have hc : (loadCells ⟨g, o, none⟩ vs.length).run P w = .ok vs.toArray w := run_loadCells_list (P := P) w ⟨g, o, none⟩ vs (fun j v h => by rw [Addr.add_mid]; exact hv j v h);rw [hl] at hc;simp only [Sem.run_bind, qd0 hi, Result.andThen_ok, hc, Sem.run_pure]
theorem qc4 {g : Nat} {cur : Array Value} {e : TypeId} {fr : Nat × Nat} (h : w.heap[g]? = some (.cells cur e fr)) (j : Nat) : w.cell? ⟨g, j, none⟩ = cur[j]? := by
 simp [World.cell?, h]
theorem qnZ (n g o : Nat) (f : Nat->Value) (h : ∀ j, j < n->w.cell? ⟨g, o + j, none⟩ = some (f j)) : ∀ (j : Nat) v, ((List.range n).map f)[j]? = some v->w.cell? ⟨g, o + j, none⟩ = some v := by
 intro j v hv;rw [List.getElem?_map] at hv;cases hr : (List.range n)[j]? with
 | none => rw [hr] at hv; simp at hv
 | some k =>
  have hj : j < n := by have := (List.getElem?_eq_some_iff.1 hr).1; simpa using this
  rw [List.getElem?_range hj] at hr;cases hr;rw [List.getElem?_range hj] at hv;simp at hv;subst hv;exact h j hj
theorem qh2 {n j : Nat} {f : Nat->Value} {v : Value} (hv : ((List.range n).map f)[j]? = some v) : j < n/\v = f j := by
 have hj : j < n := by have := (List.getElem?_eq_some_iff.1 hv).1; simpa using this
 rw [List.getElem?_map, List.getElem?_range hj] at hv;simp at hv;exact ⟨hj, hv.symm⟩
theorem qfG {t : TypeId} {d : TypeDesc} (ht : P.underlying t = some d) {g o : Nat} {l : List AV} (hl : l.length = P.cellsOf t) (f : Nat->Value) (hc : ∀ j, j < l.length->w.cell? ⟨g, o + j, none⟩ = some (f j))
  (hr : ∀ (j : Nat) y, l[j]? = some y->VRel J F w y (f j)) {x : AV} (hx : qw7 (qg1 P t) l = some x) : ∃ v, (Instr.loadAt t (.pointer (some ⟨g, o, none⟩))).run P w = .ok v w/\VRel J F w x v := by
 refine qyY ht (vs := (List.range l.length).map f) (qnZ _ _ _ _ hc) (by simpa using hl) (qkD hx ⟨by simp, ?_⟩);intro j y u h1 h2;obtain ⟨_, rfl⟩ := qh2 h2;exact hr j y h1
theorem qs9 {t : TypeId} {d : TypeDesc} (ht : P.underlying t = some d) {g o : Nat} {l : List DV} (hl : l.length = P.cellsOf t) (f : Nat->Value) (hc : ∀ j, j < l.length->w.cell? ⟨g, o + j, none⟩ = some (f j))
  (hr : ∀ (j : Nat) y, l[j]? = some y->Rep F w y (f j)) {x : AV} (hx : ql8 (qg1 P t) l = some x) : ∃ v, (Instr.loadAt t (.pointer (some ⟨g, o, none⟩))).run P w = .ok v w/\VRel J F w x v := by
 refine qyY ht (vs := (List.range l.length).map f) (qnZ _ _ _ _ hc) (by simpa using hl) (qhW hx ⟨by simp, ?_⟩);intro j y u h1 h2;obtain ⟨_, rfl⟩ := qh2 h2;exact hr j y h1
theorem qf6 {α : Type} {l : List α} {o n j : Nat} {y : α} (h : ((l.drop o).take n)[j]? = some y) : j < n/\l[o + j]? = some y := by
 rw [List.getElem?_take] at h;split at h
 ·rename_i hj; rw [List.getElem?_drop] at h; exact ⟨hj, h⟩
 ·cases h
theorem qoA (hH : HRel J F w H) {t : TypeId} {d : TypeDesc} (ht : P.underlying t = some d) {x y : AV} {v : Value} (hv : VRel J F w x v) (h : qk1 H (P.cellsOf t) (qg1 P t) x = some y) :
  ∃ u, (Instr.loadAt t v).run P w = .ok u w/\VRel J F w y u := by
 unfold qk1 at h;split at h
 ·-- data
  rename_i cs;split at h
  ·rename_i hn
   cases hv.inv_val with
   | pt _ g o vals hF hcell hrep =>
    refine qs9 ht (l := cs.take (P.cellsOf t)) (by rw [List.length_take]; omega) vals ?_ ?_ h
    ·intro j hj
     rw [List.length_take] at hj;exact hcell j cs[j] (List.getElem?_eq_getElem (by omega))
    ·intro j z hz
     rw [List.getElem?_take] at hz;split at hz
     ·exact hrep j z hz
     ·cases hz
  ·cases h
 ·rename_i id o
  split at h
  ·rename_i cells hb
   split at h
   ·rename_i hn
    cases hH.blk _ _ hb with
    | box _ g s cap cur e hJ hg hs hc h1 =>
     cases hv with
     | box _ _ g' own' s' cap' hJ' =>
      rw [hJ] at hJ'; cases hJ';refine qfG ht (l := (cells.drop o).take (P.cellsOf t)) (by rw [List.length_take, List.length_drop]; omega) (fun j => cur.getD (o + j) undef) ?_ ?_ h
      ·intro j hj
       rw [List.length_take, List.length_drop] at hj;rw [qc4 hg];have : o + j < cur.size := by omega
       simp [Array.getD, this]
      ·intro j z hz
       obtain ⟨hj, hz⟩ := qf6 hz;have hlt : o + j < cur.size := by have := (List.getElem?_eq_some_iff.1 hz).1; omega
       have : cur[o + j]? = some (cur.getD (o + j) undef) := by simp [Array.getD, hlt]
       exact hc _ _ _ hz this
     | boxDead _ _ _ hJ' => rw [hJ] at hJ'; cases hJ'
   ·cases h
  ·rename_i cells hb
   split at h
   ·rename_i hn
    cases hH.blk _ _ hb with
    | fbox _ g own s cap vals hJ hown hF hcell hrep =>
     cases hv with
     | box _ _ g' own' s' cap' hJ' =>
      rw [hJ] at hJ'; cases hJ';refine qs9 ht (l := (cells.drop o).take (P.cellsOf t)) (by rw [List.length_take, List.length_drop]; omega) (fun j => vals (o + j)) ?_ ?_ h
      ·intro j hj
       rw [List.length_take, List.length_drop] at hj;exact hcell _ _ (List.getElem?_eq_getElem (by omega))
      ·intro j z hz
       obtain ⟨hj, hz⟩ := qf6 hz;exact hrep _ _ hz
     | boxDead _ _ _ hJ' => rw [hJ] at hJ'; cases hJ'
   ·cases h
  ·cases h
 ·rename_i id i o
  have key : ∀ (s : Nat) (es : List (List DV)) (e : List DV), H id = some (.row s es)\/H id = some (.frow s es)->es[i]? = some e->o + P.cellsOf t<=e.length->ql8 (qg1 P t) ((e.drop o).take (P.cellsOf t)) = some y →
    ∃ u, (Instr.loadAt t v).run P w = .ok u w/\VRel J F w y u := by
   intro s es e hb he hn h
   have hlen : ∀ j, j < ((e.drop o).take (P.cellsOf t)).length->o + j < e.length := by
    intro j hj; rw [List.length_take, List.length_drop] at hj; omega
   rcases hb with hb | hb
   ·cases hH.blk _ _ hb with
    | row _ _ g cap cur ty hJ hg hs hn' hm hel hc h1 =>
     cases hv with
     | elt _ _ _ g' own' s' cap' hJ' =>
      rw [hJ] at hJ'; cases hJ';have hes : e.length = s := hel e (List.mem_of_getElem? he);have hi : i < cap := by have := (List.getElem?_eq_some_iff.1 he).1; omega
      have hsz : ∀ j, o + j < e.length->i * s + (o + j) < cur.size := by
       intro j hj;rw [hs];have : (i + 1) * s<=cap * s := Nat.mul_le_mul_right _ hi;rw [Nat.succ_mul] at this;omega
      refine qs9 ht (l := (e.drop o).take (P.cellsOf t)) (by rw [List.length_take, List.length_drop]; omega) (fun j => cur.getD (i * s + (o + j)) undef) ?_ ?_ h
      ·intro j hj
       have := hsz j (hlen j hj);rw [Nat.add_assoc, qc4 hg];simp [Array.getD, this]
      ·intro j z hz
       obtain ⟨hj, hz⟩ := qf6 hz;have hlt := hsz j (List.getElem?_eq_some_iff.1 hz).1;have : cur[i * s + (o + j)]? = some (cur.getD (i * s + (o + j)) undef) := by simp [Array.getD, hlt]
       exact hc _ _ _ _ _ he hz this
     | eltDead _ _ _ _ hJ' => rw [hJ] at hJ'; cases hJ'
    | rowNil s' cap hJ => simp at he
   ·cases hH.blk _ _ hb with
    | frow _ _ g own cap vals hJ hown hF hel hsg hn' hcell hrep =>
     cases hv with
     | elt _ _ _ g' own' s' cap' hJ' =>
      rw [hJ] at hJ'; cases hJ';refine qs9 ht (l := (e.drop o).take (P.cellsOf t)) (by rw [List.length_take, List.length_drop]; omega) (fun j => vals i (o + j)) ?_ ?_ h
      ·intro j hj
       rw [Nat.add_assoc];exact hcell _ _ _ _ he (List.getElem?_eq_getElem (hlen j hj))
      ·intro j z hz
       obtain ⟨hj, hz⟩ := qf6 hz;exact hrep _ _ _ _ he hz
     | eltDead _ _ _ _ hJ' => rw [hJ] at hJ'; cases hJ'
    | frowNil s' cap own hJ => simp at he
  split at h
  ·rename_i s es hb
   split at h
   ·rename_i e he
    split at h
    ·exact key s es e (.inl hb) he (by assumption) h
    ·cases h
   ·cases h
  ·rename_i s es hb
   split at h
   ·rename_i e he
    split at h
    ·exact key s es e (.inr hb) he (by assumption) h
    ·cases h
   ·cases h
  ·rename_i s es hb
   split at h
   ·rename_i e he
    split at h
    ·rename_i hn
     have hlen : ∀ j, j < ((e.drop o).take (P.cellsOf t)).length->o + j < e.length := by
      intro j hj; rw [List.length_take, List.length_drop] at hj; omega
     cases hH.blk _ _ hb with
     | fns _ _ g cap cur ty hJ hg hs hn' hel hc h1 =>
      cases hv with
      | elt _ _ _ g' own' s' cap' hJ' =>
       rw [hJ] at hJ'; cases hJ';have hes : e.length = s := hel e (List.mem_of_getElem? he);have hi : i < cap := by have := (List.getElem?_eq_some_iff.1 he).1; omega
       have hsz : ∀ j, o + j < e.length->i * s + (o + j) < cur.size := by
        intro j hj;rw [hs];have : (i + 1) * s<=cap * s := Nat.mul_le_mul_right _ hi;rw [Nat.succ_mul] at this;omega
       refine qfG ht (l := (e.drop o).take (P.cellsOf t)) (by rw [List.length_take, List.length_drop]; omega) (fun j => cur.getD (i * s + (o + j)) undef) ?_ ?_ h
       ·intro j hj
        have := hsz j (hlen j hj);rw [Nat.add_assoc, qc4 hg];simp [Array.getD, this]
       ·intro j z hz
        obtain ⟨hj, hz⟩ := qf6 hz;have hlt := hsz j (List.getElem?_eq_some_iff.1 hz).1;have : cur[i * s + (o + j)]? = some (cur.getD (i * s + (o + j)) undef) := by simp [Array.getD, hlt]
        exact hc _ _ _ _ _ he hz this
      | eltDead _ _ _ _ hJ' => rw [hJ] at hJ'; cases hJ'
    ·cases h
   ·cases h
  ·cases h
 ·cases h
end
section
variable {P : Program} {J : Id->JI} {F : Nat->Prop} {w : World} {H : Hp}
def qdY (J : Id->JI) (F : Nat->Prop) (ids : List Id) : Nat->Prop := fun g => F g\/∃ id ∈ ids, ∃ s c, J id = .live (some g) true s c
theorem qdY.mono {ids ids' : List Id} (h : ∀ i ∈ ids, i ∈ ids') : ∀ g, qdY J F ids g->qdY J F ids' g := by
 rintro g (hg | ⟨id, hid, s, c, hj⟩)
 ·exact .inl hg
 ·exact .inr ⟨id, h id hid, s, c, hj⟩
theorem Rep.norm1 {d : DV} {v : Value} (h : Rep F w d v) : Rep F w d.norm1 v := by
 cases h with
 | nils s a => exact .sl0 0 a 0
 | int k n => exact .int k n
 | bool b => exact .bool b
 | str s => exact .str s
 | sl0 s a c => exact .sl0 0 a c
 | sl s l g o c vals hs hc h1 hF hcell hrep =>
  cases l with
  | nil => exact .sl0 0 _ _
  | cons x l => exact .sl s (x :: l) g o c vals hs hc h1 hF hcell hrep
 | pt cells g o vals hF hcell hrep => exact .pt cells g o vals hF hcell hrep
 | nilp => exact .nilp
 | nili => exact .nili
 | ifc t d v h => exact .ifc t d v h
 | fn f caps vs hl h => exact .fn f caps vs hl h
 | nilf => exact .nilf
 | agg l vs hl h => exact .agg l vs hl h
 | tup l vs hl h => exact .tup l vs hl h
theorem qkL {ds : List DV} {vs : List Value} (h : qg0 F w ds vs) : qg0 F w (ds.map DV.norm1) vs := by
 refine ⟨by simpa using h.1, fun j d v h1 h2 => ?_⟩;rw [List.getElem?_map] at h1;cases hd : ds[j]? with
 | none => rw [hd] at h1; cases h1
 | some e => rw [hd] at h1; cases h1; exact (h.2 j e v hd h2).norm1
theorem Rep.norm {d : DV} {v : Value} (h : Rep F w d v) : Rep F w d.norm v := by
 cases h with
 | agg l vs hl h =>
  refine .agg _ vs (by simpa using hl) ?_
  intro j d v h1 h2;rw [List.getElem?_map] at h1;cases hd : l[j]? with
  | none => rw [hd] at h1; simp at h1
  | some e => rw [hd] at h1; simp at h1; subst h1; exact (h j e v hd h2).norm1
 | nils s a => exact (Rep.nils s a).norm1
 | int k n => exact .int k n
 | bool b => exact .bool b
 | str s => exact .str s
 | sl0 s a c => exact (Rep.sl0 s a c).norm1
 | sl s l g o c vals hs hc h1 hF hcell hrep => exact (Rep.sl s l g o c vals hs hc h1 hF hcell hrep).norm1
 | pt cells g o vals hF hcell hrep => exact .pt cells g o vals hF hcell hrep
 | nilp => exact .nilp
 | nili => exact .nili
 | ifc t d v h => exact .ifc t d v h
 | fn f caps vs hl h => exact .fn f caps vs hl h
 | nilf => exact .nilf
 | tup l vs hl h => exact .tup l vs hl h
theorem HRel.asRow (hH : HRel J F w H) {id : Id} {es : List (List DV)} {own : Bool} (h : qkH (H id) = some (es, own)) : ∃ b, HRel J F w (upd H id (some b))/\((own = true/\b = .row 1 es)\/(own = false/\b = .frow 1 es)) := by
 have key : ∀ b, H id ≠ Option.none->BRel J F w id b->HRel J F w (upd H id (some b)) := by
  intro b hn hb;refine ⟨fun i c hc => ?_, fun i hi => ?_, hH.inj, hH.own, hH.live, hH.fsz, hH.tab⟩
  ·unfold upd at hc
   split at hc
   ·rename_i e
    cases hc;rw [e]; exact hb
   ·exact hH.blk i c hc
  ·unfold upd at hi
   split at hi
   ·cases hi
   ·exact hH.none i hi
 unfold qkH at h;split at h
 ·rename_i cells hb
  split at h
  ·rename_i ds hd
   split at h
   ·rename_i hlen
    simp only [Option.some.injEq, Prod.mk.injEq] at h;obtain ⟨rfl, rfl⟩ := h;refine ⟨_, key _ (by rw [hb]; simp) ?_, .inl ⟨rfl, rfl⟩⟩;cases hH.blk _ _ hb with
    | box _ g s cap cur e hJ hg hs hc h1 hk =>
     obtain ⟨rfl, rfl⟩ := hk;obtain ⟨r1, r2⟩ := qfD (J := J) (F := F) (w := w) (vs := cur.toList) hd ⟨by simpa using hs, fun j y u h2 h3 => hc j y u h2 (by simpa using h3)⟩;have hdl : ds.length = cells.length := by rw [← r1]; simpa using hs
     refine .row 1 _ g cells.length cur e hJ hg (by omega) (by rw [List.length_map]; omega) (by unfold maxLen; omega) ?_ ?_ h1
     ·intro x hx
      obtain ⟨d, _, rfl⟩ := List.mem_map.1 hx;rfl
     ·intro i j x d v h2 h3 h4
      rw [List.getElem?_map] at h2;cases hq : ds[i]? with
      | none => rw [hq] at h2; cases h2
      | some d' =>
       rw [hq] at h2;cases h2;cases j with
       | zero =>
        cases h3;exact r2 i _ v hq (by simpa using h4)
       | succ j => cases h3
   ·cases h
  ·cases h
 ·rename_i ds hb
  split at h
  ·rename_i hsg
   simp only [Option.some.injEq, Prod.mk.injEq] at h;obtain ⟨rfl, rfl⟩ := h;refine ⟨_, key _ (by rw [hb]; simp) ?_, .inr ⟨rfl, rfl⟩⟩;cases hH.blk _ _ hb with
   | fbox _ g own s cap vals hJ ho hF hcell hrep hk =>
    obtain ⟨rfl, rfl⟩ := hk
    have get : ∀ (i j : Nat) (x : List DV) (d : DV), (ds.map fun d => [d])[i]? = some x->x[j]? = some d->j = 0/\ds[i]? = some d := by
     intro i j x d h2 h3;rw [List.getElem?_map] at h2;cases hq : ds[i]? with
     | none => rw [hq] at h2; cases h2
     | some d' =>
      rw [hq] at h2;cases h2;cases j with
      | zero => cases h3; exact ⟨rfl, rfl⟩
      | succ j => cases h3
    refine .frow 1 _ g own ds.length (fun i _ => vals i) hJ ho hF ?_ ?_ (by rw [List.length_map]; omega) ?_ ?_
    ·intro x hx
     obtain ⟨d, _, rfl⟩ := List.mem_map.1 hx;rfl
    ·intro x hx d hd
     obtain ⟨d', hm, rfl⟩ := List.mem_map.1 hx;simp only [List.mem_singleton] at hd;subst hd;exact List.all_eq_true.1 hsg _ hm
    ·intro i j x d h2 h3
     obtain ⟨rfl, hq⟩ := get i j x d h2 h3;rw [show i * 1 + 0 = i by omega];exact hcell i d hq
    ·intro i j x d h2 h3
     obtain ⟨rfl, hq⟩ := get i j x d h2 h3;exact hrep i d hq
  ·cases h
 ·cases h
theorem qkM (hH : HRel J F w H) {id : Id} {s o n : Nat} {v : Value} {es : List (List DV)} {ids : List Id} (hv : VRel J F w (.row id s o n) v) (hb : (H id = some (.row s es)/\id ∈ ids)\/H id = some (.frow s es)) (hn : o + n<=es.length) :
  Rep (qdY J F ids) w (.sl s ((es.drop o).take n)) v := by
 have hlen : ((es.drop o).take n).length = n := by rw [List.length_take, List.length_drop]; omega
 by_cases h0 : n = 0
 ·subst h0
  rw [List.take_zero];cases hv with
  | row => exact .sl0 _ _ _
  | rowNil => exact .sl0 _ _ _
  | rowEnd => exact .sl0 _ _ _
  | rowDead => exact .sl0 _ _ _
 ·have mk : ∀ g cap own, J id = .live (some g) own s cap->qdY J F ids g->∀ vals : Nat->Nat->Value, (∀ e ∈ es, e.length = s)->(∀ e ∈ es, ∀ d ∈ e, DV.single d = true)->es.length<=cap →
    (∀ i j e d, es[i]? = some e->e[j]? = some d->w.cell? ⟨g, i * s + j, none⟩ = some (vals i j))->(∀ i j e d, es[i]? = some e->e[j]? = some d->Rep F w d (vals i j))->Rep (qdY J F ids) w (.sl s ((es.drop o).take n)) v := by
   intro g cap own hJ hg vals he hsg hc hcell hrep;cases hv with
   | row _ _ _ g' own' s' cap' hJ' hc' =>
    rw [hJ] at hJ';cases hJ';have := Rep.sl (F := qdY J F ids) (w := w) s ((es.drop o).take n) g (o * s) (cap - o) (fun i j => vals (o + i) j) ?_ (by omega) ?_ hg ?_ ?_
    ·rwa [hlen] at this
    ·intro e hm
     obtain ⟨i, hi⟩ := List.getElem?_of_mem hm
     exact he e (List.mem_of_getElem? (qf6 hi).2)
    ·intro e hm
     obtain ⟨i, hi⟩ := List.getElem?_of_mem hm
     exact hsg e (List.mem_of_getElem? (qf6 hi).2)
    ·intro i j e d h1 h2
     have := hcell _ _ _ _ (qf6 h1).2 h2;rw [← this]
     congr 2
     rw [Nat.add_mul]; omega
    ·intro i j e d h1 h2
     exact (hrep _ _ _ _ (qf6 h1).2 h2).mono (fun g h => .inl h) (fun _ _ => rfl)
   | rowNil => exact absurd rfl h0
   | rowEnd => exact absurd rfl h0
   | rowDead _ _ _ _ _ _ hJ' => rw [hJ] at hJ'; cases hJ'
  rcases hb with ⟨hb, hid⟩ | hb
  ·cases hH.blk _ _ hb with
   | row _ _ g cap cur ty hJ hg hs hn' hm hel hc h1 =>
    refine mk g cap true hJ (.inr ⟨id, hid, s, cap, hJ⟩) (fun i j => cur.getD (i * s + j) undef) hel ?_ hn' ?_ ?_
    ·intro e he d hd
     obtain ⟨i, hi⟩ := List.getElem?_of_mem he
     obtain ⟨j, hj⟩ := List.getElem?_of_mem hd
     have hic : i < cap := by have := (List.getElem?_eq_some_iff.1 hi).1; omega
     have hjs : j < s := by have := (List.getElem?_eq_some_iff.1 hj).1; rwa [hel e he] at this
     have : (i + 1) * s<=cap * s := Nat.mul_le_mul_right _ hic;rw [Nat.succ_mul] at this;have hlt : i * s + j < cur.size := by omega
     have hq : cur[i * s + j]? = some (cur.getD (i * s + j) undef) := by simp [Array.getD, hlt]
     exact (hc _ _ _ _ _ hi hj hq).single (h1 _ _ hq)
    ·intro i j e d he hd
     have hi : i < cap := by have := (List.getElem?_eq_some_iff.1 he).1; omega
     have hj : j < s := by have := (List.getElem?_eq_some_iff.1 hd).1; rwa [hel e (List.mem_of_getElem? he)] at this
     have : (i + 1) * s<=cap * s := Nat.mul_le_mul_right _ hi;rw [Nat.succ_mul] at this;have hlt : i * s + j < cur.size := by omega
     rw [qc4 hg];simp [Array.getD, hlt]
    ·intro i j e d he hd
     have hi : i < cap := by have := (List.getElem?_eq_some_iff.1 he).1; omega
     have hj : j < s := by have := (List.getElem?_eq_some_iff.1 hd).1; rwa [hel e (List.mem_of_getElem? he)] at this
     have : (i + 1) * s<=cap * s := Nat.mul_le_mul_right _ hi;rw [Nat.succ_mul] at this;have hlt : i * s + j < cur.size := by omega
     have : cur[i * s + j]? = some (cur.getD (i * s + j) undef) := by simp [Array.getD, hlt]
     exact hc _ _ _ _ _ he hd this
   | rowNil s' cap hJ => simp at hn; omega
  ·cases hH.blk _ _ hb with
   | frow _ _ g own cap vals hJ hown hF hel hsg hn' hcell hrep => exact mk g cap own hJ (.inl hF) vals hel hsg hn' hcell hrep
   | frowNil s' cap own hJ => simp at hn; omega
theorem zm1 {ids ids' : List Id} : ∀ g, qdY J F ids g->qdY J F (ids ++ ids') g := qdY.mono fun _ h => List.mem_append.2 (.inl h)
theorem zf2 {ids ids' : List Id} : ∀ g, qdY J F ids' g->qdY J F (ids ++ ids') g := qdY.mono fun _ h => List.mem_append.2 (.inr h)
theorem zm2 {i : Id} {ids : List Id} : ∀ g, qdY J F ids g->qdY J F (i :: ids) g := qdY.mono fun _ h => List.mem_cons_of_mem _ h
theorem qt0 (hH : HRel J F w H) : ∀ (k : Nat),
  (∀ x d ids v, qz9 H k x = some (d, ids)->VRel J F w x v->Rep (qdY J F ids) w d v) ∧
  (∀ l ds ids, qf5 H k l = some (ds, ids)->ds.length = l.length/\∀ (j : Nat) x d v, l[j]? = some x->ds[j]? = some d->VRel J F w x v->Rep (qdY J F ids) w d v) := by
 intro k
 induction k with
 | zero => exact ⟨fun x d ids v h => by simp [qz9] at h, fun l ds ids h => by simp [qf5] at h⟩
 | succ k ih =>
  obtain ⟨ih1, ih2⟩ := ih;refine ⟨?_, ?_⟩
  ·intro x d ids v h hv
   unfold qz9 at h;split at h
   ·cases h
    exact (hv.inv_val.norm).mono (fun g hg => .inl hg) (fun _ _ => rfl)
   ·rename_i id s o n
    split at h
    ·rename_i s' es hb
     split at h
     ·rename_i hc
      cases h;obtain ⟨rfl, hn⟩ := hc;exact (qkM hH hv (.inl ⟨hb, List.mem_singleton.2 rfl⟩) hn).norm1
     ·cases h
    ·rename_i s' es hb
     split at h
     ·rename_i hc
      cases h;obtain ⟨rfl, hn⟩ := hc;exact (qkM hH hv (.inr hb) hn).norm1
     ·cases h
    ·split at h
     ·rename_i es own hro
      split at h
      ·rename_i hc
       cases h;obtain ⟨rfl, hn⟩ := hc;obtain ⟨b, hH', hb⟩ := hH.asRow hro;refine (qkM hH' hv ?_ hn).norm1;rcases hb with ⟨rfl, rfl⟩ | ⟨rfl, rfl⟩
       ·exact .inl ⟨qc0 _ _ _, List.mem_singleton.2 rfl⟩
       ·exact .inr (qc0 _ _ _)
      ·cases h
     ·cases h
   ·rename_i l
    simp only [Option.map_eq_some_iff] at h;obtain ⟨⟨ds, ids'⟩, hd, he⟩ := h;cases he;obtain ⟨hl, hr⟩ := ih2 l _ _ hd;obtain ⟨vs, rfl, hvl, hvr⟩ := hv.toAgg;refine .agg _ vs (by rw [hvl, hl]) ?_
    intro j d u h1 h2;have hj : j < l.length := by rw [← hl]; exact (List.getElem?_eq_some_iff.1 h1).1
    exact hr j _ d u (List.getElem?_eq_getElem hj) h1 (hvr j _ u (List.getElem?_eq_getElem hj) h2)
   ·rename_i f l
    simp only [Option.map_eq_some_iff] at h;obtain ⟨⟨ds, ids'⟩, hd, he⟩ := h;cases he;obtain ⟨hl, hr⟩ := ih2 l _ _ hd;cases hv with
    | clo _ _ vs hvl hvr =>
     refine .fn f _ vs (by rw [hvl, hl]) ?_
     intro j d u h1 h2;have hj : j < l.length := by rw [← hl]; exact (List.getElem?_eq_some_iff.1 h1).1
     exact hr j _ d u (List.getElem?_eq_getElem hj) h1 (hvr j _ u (List.getElem?_eq_getElem hj) h2)
   ·rename_i id o
    split at h
    ·rename_i cells hb
     simp only [Option.map_eq_some_iff] at h;obtain ⟨⟨ds, ids'⟩, hd, he⟩ := h;cases he;obtain ⟨hl, hr⟩ := ih2 cells _ _ hd;cases hH.blk _ _ hb with
     | box _ g s cap cur e hJ hg hs hc h1 =>
      cases hv with
      | box _ _ g' own' s' cap' hJ' =>
       rw [hJ] at hJ'; cases hJ'
       have get : ∀ j d, (ds.drop o)[j]? = some d->∃ x, cells[o + j]? = some x/\ds[o + j]? = some d/\cur[o + j]? = some (cur.getD (o + j) undef) := by
        intro j d hd;rw [List.getElem?_drop] at hd;have hj := (List.getElem?_eq_some_iff.1 hd).1;have hlt : o + j < cur.size := by omega
        exact ⟨_, List.getElem?_eq_getElem (show o + j < cells.length by omega), hd, by simp [Array.getD, hlt]⟩
       refine .pt _ g o (fun j => cur.getD (o + j) undef) (.inr ⟨id, List.mem_cons_self .., s, cap, hJ⟩) ?_ ?_
       ·intro j d hd
        obtain ⟨x, _, _, h3⟩ := get j d hd;rw [qc4 hg]; exact h3
       ·intro j d hd
        obtain ⟨x, h1, h2, h3⟩ := get j d hd;exact (hr _ x d _ h1 h2 (hc _ _ _ h1 h3)).mono zm2 (fun _ _ => rfl)
      | boxDead _ _ _ hJ' => rw [hJ] at hJ'; cases hJ'
    ·rename_i cells hb
     cases h;cases hH.blk _ _ hb with
     | fbox _ g own s cap vals hJ hown hF hcell hrep =>
      cases hv with
      | box _ _ g' own' s' cap' hJ' =>
       rw [hJ] at hJ'; cases hJ';refine .pt _ g o (fun j => vals (o + j)) (.inl hF) ?_ ?_
       ·intro j d hd; rw [List.getElem?_drop] at hd; exact hcell _ _ hd
       ·intro j d hd; rw [List.getElem?_drop] at hd; exact (hrep _ _ hd).mono (fun g h => .inl h) (fun _ _ => rfl)
      | boxDead _ _ _ hJ' => rw [hJ] at hJ'; cases hJ'
    ·cases h
   ·rename_i id i o
    split at h
    ·rename_i s es hb
     simp only [Option.map_eq_some_iff] at h;obtain ⟨e, he, hh⟩ := h;cases hh;cases hH.blk _ _ hb with
     | frow _ _ g own cap vals hJ hown hF hel hsg hn' hcell hrep =>
      cases hv with
      | elt _ _ _ g' own' s' cap' hJ' =>
       rw [hJ] at hJ'; cases hJ';refine .pt _ g _ (fun j => vals i (o + j)) (.inl hF) ?_ ?_
       ·intro j d hd; rw [List.getElem?_drop] at hd; rw [Nat.add_assoc]; exact hcell _ _ _ _ he hd
       ·intro j d hd; rw [List.getElem?_drop] at hd; exact (hrep _ _ _ _ he hd).mono (fun g h => .inl h) (fun _ _ => rfl)
      | eltDead _ _ _ _ hJ' => rw [hJ] at hJ'; cases hJ'
     | frowNil s' cap own hJ => simp at he
    ·rename_i s es hb
     simp only [Option.map_eq_some_iff] at h;obtain ⟨e, he, hh⟩ := h;cases hh;cases hH.blk _ _ hb with
     | row _ _ g cap cur ty hJ hg hs hn' hm hel hc h1 =>
      cases hv with
      | elt _ _ _ g' own' s' cap' hJ' =>
       rw [hJ] at hJ'; cases hJ';have hes : e.length = s := hel e (List.mem_of_getElem? he);have hi : i < cap := by have := (List.getElem?_eq_some_iff.1 he).1; omega
       have hlt : ∀ j, j < s->cur[i * s + j]? = some (cur.getD (i * s + j) undef) := by
        intro j hj;have : (i + 1) * s<=cap * s := Nat.mul_le_mul_right _ hi;rw [Nat.succ_mul] at this;have : i * s + j < cur.size := by omega
        simp [Array.getD, this]
       refine .pt _ g _ (fun j => cur.getD (i * s + (o + j)) undef) (.inr ⟨id, List.mem_cons_self .., s, cap, hJ⟩) ?_ ?_
       ·intro j d hd
        rw [List.getElem?_drop] at hd;rw [Nat.add_assoc, qc4 hg];exact hlt _ (by have := (List.getElem?_eq_some_iff.1 hd).1; omega)
       ·intro j d hd
        rw [List.getElem?_drop] at hd;exact (hc _ _ _ _ _ he hd (hlt _ (by have := (List.getElem?_eq_some_iff.1 hd).1; omega))).mono (fun g h => .inl h) (fun _ _ => rfl)
      | eltDead _ _ _ _ hJ' => rw [hJ] at hJ'; cases hJ'
     | rowNil s' cap hJ => simp at he
    ·cases h
   ·cases h
  ·intro l ds ids h
   cases l with
   | nil => simp only [qf5, Option.some.injEq, Prod.mk.injEq] at h; obtain ⟨rfl, rfl⟩ := h; simp
   | cons x l =>
    simp only [qf5] at h;split at h
    ·cases h
     rename_i d a ds' b h1 h2;obtain ⟨hl, hr⟩ := ih2 l _ _ h2;refine ⟨by simp [hl], ?_⟩;intro j y e v hy he hv;cases j with
     | zero => simp at hy he; subst hy; subst he; exact (ih1 _ _ _ _ h1 hv).mono zm1 (fun _ _ => rfl)
     | succ j => simp at hy he; exact (hr j y e v hy he hv).mono zf2 (fun _ _ => rfl)
    ·cases h
end
section
variable {P : Program} {J : Id->JI} {F : Nat->Prop} {w : World} {H : Hp}
def JI.unown : JI->JI
 | .live g _ s c => .live g false s c
 | x => x
def zk7 (J : Id->JI) (ids : List Id) : Id->JI := fun i => if ids.contains i then (J i).unown else J i
theorem unown_le (x : JI) : x.le x.unown := by cases x <;> simp [JI.le, JI.unown]
theorem zm3 (ids : List Id) (i : Id) : (J i).le (zk7 J ids i) := by
 unfold zk7;split
 ·exact unown_le _
 ·exact JI.le_refl _
theorem qfH {ids : List Id} {i : Id} {g : Option Nat} {o : Bool} {s c : Nat} (h : zk7 J ids i = .live g o s c) : ∃ o', J i = .live g o' s c/\(o = true->o' = true/\ids.contains i = false) := by
 unfold zk7 at h;split at h
 ·rename_i hc
  cases hj : J i with
  | live g' o' s' c' => rw [hj] at h; simp only [JI.unown, JI.live.injEq] at h; obtain ⟨rfl, rfl, rfl, rfl⟩ := h; exact ⟨o', rfl, by simp⟩
  | none => rw [hj] at h; simp [JI.unown] at h
  | dead => rw [hj] at h; simp [JI.unown] at h
 ·rename_i hc
  exact ⟨o, h, fun ho => ⟨ho, by simpa using hc⟩⟩
theorem BRel.fixed {id : Id} {b : Blk} {ids : List Id} (hH : HRel J F w H) (hb : H id = some b) (hid : ids.contains id = true) (hok : qdX H ids id = true) : ∃ b', qsL H (H id) = some b'/\BRel (zk7 J ids) (qdY J F ids) w id b' := by
 have hJ' : zk7 J ids id = (J id).unown := by unfold zk7; rw [if_pos hid]
 have hmem : id ∈ ids := by simpa using hid
 have h := hH.blk id b hb;rw [hb];cases h with
 | row s es g cap cur e h hg hs hn hm he hc h1 =>
  refine ⟨_, rfl, ?_⟩
  have hlt : ∀ i j e d, es[i]? = some e->e[j]? = some d->cur[i * s + j]? = some (cur.getD (i * s + j) undef) := by
   intro i j e d h2 h3;have hi : i < cap := by have := (List.getElem?_eq_some_iff.1 h2).1; omega
   have hj : j < s := by have := (List.getElem?_eq_some_iff.1 h3).1; rwa [he e (List.mem_of_getElem? h2)] at this
   have : (i + 1) * s<=cap * s := Nat.mul_le_mul_right _ hi;rw [Nat.succ_mul] at this;have hlt : i * s + j < cur.size := by omega
   simp [Array.getD, hlt]
  refine .frow s es g false cap (fun i j => cur.getD (i * s + j) undef) (by rw [hJ', h]; rfl) rfl (.inr ⟨id, hmem, s, cap, h⟩) he ?_ hn ?_ ?_
  ·intro e hm d hd
   obtain ⟨i, hi⟩ := List.getElem?_of_mem hm
   obtain ⟨j, hj⟩ := List.getElem?_of_mem hd
   exact (hc _ _ _ _ _ hi hj (hlt i j e d hi hj)).single (h1 _ _ (hlt i j e d hi hj))
  ·intro i j e d h2 h3
   rw [qc4 hg];exact hlt i j e d h2 h3
  ·intro i j e d h2 h3
   exact (hc _ _ _ _ _ h2 h3 (hlt i j e d h2 h3)).mono (fun g h => .inl h) (fun _ _ => rfl)
 | rowNil s cap h => exact ⟨_, rfl, .frowNil s cap false (by rw [hJ', h]; rfl)⟩
 | fns s es g cap cur e h hg hs hn he hc h1 =>
  unfold qdX at hok;rw [hb] at hok;cases hok
 | box cells g s cap cur e h hg hs hc h1 hk =>
  unfold qdX at hok;rw [hb] at hok;simp only [] at hok;split at hok
  ·rename_i ds more hd
   obtain ⟨hl, hr⟩ := (qt0 hH 99).2 _ _ _ hd;refine ⟨.fbox ds, by simp [qsL, hd], ?_⟩
   have get : ∀ j d, ds[j]? = some d->∃ x, cells[j]? = some x/\cur[j]? = some (cur.getD j undef) := by
    intro j d hd;have hj := (List.getElem?_eq_some_iff.1 hd).1;have hlt : j < cur.size := by omega
    exact ⟨_, List.getElem?_eq_getElem (show j < cells.length by omega), by simp [Array.getD, hlt]⟩
   refine .fbox ds g false s cap (fun j => cur.getD j undef) (by rw [hJ', h]; rfl) rfl (.inr ⟨id, hmem, s, cap, h⟩) ?_ ?_ ⟨hk.1, by rw [hk.2, hl]⟩
   ·intro j d hd
    obtain ⟨x, _, h3⟩ := get j d hd;rw [qc4 hg]; exact h3
   ·intro j d hd
    obtain ⟨x, h2, h3⟩ := get j d hd;refine (hr j x d _ h2 hd (hc _ _ _ h2 h3)).mono (qdY.mono ?_) (fun _ _ => rfl);intro i hi;have := List.all_eq_true.1 hok i hi;simpa using this
  ·cases hok
 | fbox cells g own s cap vals h hown hF hcell hrep hk =>
  exact ⟨_, rfl, .fbox cells g false s cap vals (by rw [hJ', h]; rfl) rfl (.inl hF) hcell (fun j d hd => (hrep j d hd).mono (fun g h => .inl h) (fun _ _ => rfl)) hk⟩
 | frow s es g own cap vals h hown hF he hsg hn hcell hrep =>
  exact ⟨_, rfl, .frow s es g false cap vals (by rw [hJ', h]; rfl) rfl (.inl hF) he hsg hn hcell (fun i j e d h2 h3 => (hrep i j e d h2 h3).mono (fun g h => .inl h) (fun _ _ => rfl))⟩
 | frowNil s cap own h => exact ⟨_, rfl, .frowNil s cap false (by rw [hJ', h]; rfl)⟩
 | dead h => exact ⟨_, rfl, .dead (by rw [hJ', h]; rfl)⟩
theorem qbL (hH : HRel J F w H) {ids : List Id} {H' : Hp} (hf : fix H ids = some H') : ∃ J' F', HRel J' F' w H'/\Ext J F w J' F' w/\∀ g, qdY J F ids g->F' g := by
 cases ids with
 | nil =>
  simp only [fix, Option.some.injEq] at hf;subst hf;exact ⟨J, F, hH, Ext.refl _ _ _, fun g hg => hg.elim id (fun ⟨_, h, _⟩ => by cases h)⟩
 | cons id0 ids0 =>
  generalize hids : id0 :: ids0 = ids at hf
  have hf' : ids.all (qdX H ids) = true/\H' = fun i => if ids.contains i then qsL H (H i) else H i := by
   subst hids;simp only [fix] at hf;split at hf
   ·cases hf; exact ⟨by assumption, rfl⟩
   ·cases hf
  obtain ⟨hok, rfl⟩ := hf'
  have hown : ∀ g, Own (zk7 J ids) g->∃ i s c, J i = .live (some g) true s c/\ids.contains i = false := by
   rintro g ⟨i, s, c, hi⟩;obtain ⟨o', h1, h2⟩ := qfH hi;obtain ⟨rfl, h3⟩ := h2 rfl;exact ⟨i, s, c, h1, h3⟩
  refine ⟨zk7 J ids, qdY J F ids, ⟨?_, ?_, ?_, ?_, ?_, ?_, hH.tab.mono (fun g h => .inl h) (fun _ _ => rfl)⟩, ⟨zm3 ids, fun g h => .inl h, ?_, ?_, fun _ _ _ => rfl, Nat.le_refl _, rfl, rfl, rfl⟩, fun g hg => hg⟩
  ·intro i b hb
   replace hb : (if ids.contains i = true then qsL H (H i) else H i) = some b := hb
   split at hb
   ·rename_i hc
    cases hi : H i with
    | none => rw [hi] at hb; simp [qsL] at hb
    | some b0 =>
     have hmem : i ∈ ids := by simpa using hc
     obtain ⟨b', h1, h2⟩ := BRel.fixed hH hi hc (List.all_eq_true.1 hok i hmem);rw [h1] at hb;cases hb;exact h2
   ·rename_i hc
    refine (hH.blk i b hb).mono (zm3 ids) ?_ (fun g h => .inl h) (fun _ _ => rfl) (fun _ _ _ _ => rfl)
    simp only [zk7];rw [if_neg hc]
  ·intro i hi
   replace hi : (if ids.contains i = true then qsL H (H i) else H i) = none := hi
   split at hi
   ·rename_i hc
    cases hi' : H i with
    | none => have := hH.none i hi'; simp only [zk7]; rw [if_pos hc, this]; rfl
    | some b0 =>
     have hmem : i ∈ ids := by simpa using hc
     obtain ⟨b', h1, h2⟩ := BRel.fixed hH hi' hc (List.all_eq_true.1 hok i hmem);rw [h1] at hi;cases hi
   ·rename_i hc
    have := hH.none i hi;simp only [zk7];rw [if_neg hc, this]
  ·intro i i' g o s c o' s' c' h1 h2
   obtain ⟨_, h1, _⟩ := qfH h1;obtain ⟨_, h2, _⟩ := qfH h2;exact hH.inj _ _ _ _ _ _ _ _ _ h1 h2
  ·intro g hg hw
   obtain ⟨i, s, c, h1, h2⟩ := hown g hg;rcases hw with hw | ⟨i', hi', s', c', h3⟩
   ·exact hH.own g ⟨i, s, c, h1⟩ hw
   ·have := hH.inj _ _ _ _ _ _ _ _ _ h1 h3
    subst this;have : ids.contains i = true := by simpa using hi'
    rw [h2] at this;cases this
  ·intro i g o s c h1
   obtain ⟨_, h1, _⟩ := qfH h1;exact hH.live _ _ _ _ _ h1
  ·rintro g (hg | ⟨i, _, s, c, h1⟩)
   ·exact hH.fsz g hg
   ·exact hH.live _ _ _ _ _ h1
  ·rintro g (hg | ⟨i, _, s, c, h1⟩)
   ·exact .inl hg
   ·exact .inr (.inl ⟨i, s, c, h1⟩)
  ·intro g hg
   obtain ⟨i, s, c, h1, _⟩ := hown g hg;exact .inl ⟨i, s, c, h1⟩
def qv6 (P : Program) (f : FuncId) : Prop := ∃ fn, P.funcs[f]? = some fn/\(fn.name == "runtime.NumGoroutine") = false/\fn.body.isNone = false
structure Grown (w w' : World) : Prop where
 heap : ∀ g, g < w.heap.size->w'.heap[g]? = w.heap[g]?
 size : w.heap.size<=w'.heap.size
 os : w'.os = w.os
 tape : w'.tape = w.tape
 output : w'.output = w.output
def qdZ (F : Nat->Prop) (w : World) (ds : List DV) (vs : List Value) : Prop := vs.length = ds.length/\∀ (j : Nat) d v, ds[j]? = some d->vs[j]? = some v->Rep F w d v
def qdF [Inhabited TabsD] (P : Program) (f : FuncId) (spec : List DV->Option DV) : Prop :=
 qv6 P f/\∀ ds r, spec ds = some r->∀ (F : Nat->Prop) (w : World) (vs : List Value), qdZ F w ds vs->(∀ g, F g->g < w.heap.size)->qbK F w →
  Calls P f vs.toArray w fun e w' => ∃ v F', e = .returned v/\Rep F' w' r v/\(∀ g, F' g->F g\/w.heap.size<=g)/\(∀ g, F' g->g < w'.heap.size)/\Grown w w'
def FreshOk [Inhabited TabsD] (P : Program) (f : FuncId) (s : Nat) (spec : List DV->Option (List (List DV))) : Prop :=
 qv6 P f/\∀ ds es, spec ds = some es->∀ (F : Nat->Prop) (w : World) (vs : List Value), qdZ F w ds vs->(∀ g, F g->g < w.heap.size)->qbK F w →
  Calls P f vs.toArray w fun e w' => ∃ v, e = .returned v/\Grown w w'/\((es = []/\∃ p, v = .slice p 0 0)\/∃ g cap cur e', v = .slice (some ⟨g, 0, none⟩) es.length cap/\w.heap.size<=g/\w'.heap[g]? = some (.cells cur e' (0, 0)) ∧
   cur.size = cap * s/\es.length<=cap/\cap<=maxLen/\(∀ x ∈ es, x.length = s)/\(∀ (i j : Nat) x d v, es[i]? = some x->x[j]? = some d->cur[i * s + j]? = some v->Rep F w' d v)/\∀ (j : Nat) v, cur[j]? = some v->v.oneCell' = true)
def qj8 [Inhabited TabsD] (P : Program) (f : FuncId) (spec : Id->List AV->Hp->Option (AV × Hp)) : Prop :=
 qv6 P f/\∀ ns avs H x H', spec ns avs H = some (x, H')->∀ (J : Id->JI) (F : Nat->Prop) (w : World) (vs : List Value), HRel J F w H →
  (vs.length = avs.length/\∀ (j : Nat) y v, avs[j]? = some y->vs[j]? = some v->VRel J F w y v) →
  Calls P f vs.toArray w fun e w' => ∃ v J' F', e = .returned v/\VRel J' F' w' x v/\HRel J' F' w' H'/\Ext J F w J' F' w'
def qr4 [Inhabited TabsD] (P : Program) (C : FuncId->Con) : Prop := ∀ f, match C f with
 | .none => True
 | .val spec => qdF P f spec
 | .fresh s spec => FreshOk P f s spec
 | .shared spec => qj8 P f spec
def zf3 [Inhabited TabsD] (P : Program) (J : Id->JI) (F : Nat->Prop) (w : World) (a : Act) (o : Oper) (x : AV) (H' : Hp) : Prop :=
 ∀ Q, o.wp P a w (fun a' w' => ∃ v J' F', a' = a.put o.dst v/\VRel J' F' w' x v/\HRel J' F' w' H'/\Ext J F w J' F' w') Q
theorem qo6.does (hH : HRel J F w H) {a : Act} {o : Oper} {x : AV} (h : qo6 P J F w a o x) : zf3 P J F w a o x H := by
 intro Q;obtain ⟨v, hr, hv⟩ := h;unfold Oper.wp;rw [hr];exact ⟨v, J, F, rfl, hv, hH, Ext.refl _ _ _⟩
theorem qp2 {a : Act} {o : Oper} {x : AV} {H' : Hp} {v : Value} {w' : World} {J' : Id->JI} {F' : Nat->Prop} (hr : (execOp a.eval o).run P w = .ok (.value v) w') (hv : VRel J' F' w' x v) (hH : HRel J' F' w' H') (he : Ext J F w J' F' w') : zf3 P J F w a o x H' := by
 intro Q;unfold Oper.wp;rw [hr];exact ⟨v, J', F', rfl, hv, hH, he⟩
theorem qsM {a : Act} {o : Oper} {H' : Hp} {w' : World} {J' : Id->JI} {F' : Nat->Prop} (hr : (execOp a.eval o).run P w = .ok .skip w') (hH : HRel J' F' w' H') (he : Ext J F w J' F' w') : zf3 P J F w a o (.val (.tup [])) H' := by
 intro Q;unfold Oper.wp;rw [hr];refine ⟨undef, J', F', rfl, .val _ _ ?_, hH, he⟩;exact Rep.tup [] [] rfl (by simp)
theorem Rep.flat {d : DV} {v : Value} (h : Rep F w d v) (hd : d.flat = true) {F' : Nat->Prop} {w' : World} : Rep F' w' d v := by
 have sc : ∀ {d : DV} {v : Value}, Rep F w d v->d.scalar = true->Rep F' w' d v := fun h hs => h.scalar hs
 have ag : ∀ {l : List DV} {v : Value}, Rep F w (.agg l) v->l.all DV.scalar = true->Rep F' w' (.agg l) v := by
  intro l v h hl;cases h with
  | agg _ vs hvl hr => exact .agg l vs hvl (fun j d u h1 h2 => sc (hr j d u h1 h2) (List.all_eq_true.1 hl d (List.mem_of_getElem? h1)))
 cases d with
 | agg l => exact ag h hd
 | tup l =>
  cases h with
  | tup _ vs hvl hr =>
   refine .tup l vs hvl (fun j d u h1 h2 => ?_);have := List.all_eq_true.1 hd d (List.mem_of_getElem? h1);cases d with
   | agg m => exact ag (hr j _ u h1 h2) this
   | _ => exact sc (hr j _ u h1 h2) this
 | _ => exact sc h hd
theorem qbM {w' : World} {F' : Nat->Prop} (hH : HRel J F w H) (hg : Grown w w') (hF : ∀ g, F' g->F g\/w.heap.size<=g) (hsz : ∀ g, F' g->g < w'.heap.size) :
  HRel J (fun g => F g\/F' g) w' H/\Ext J F w J (fun g => F g\/F' g) w' := by
 have hle : ∀ g, F g->F g\/F' g := fun g h => .inl h
 refine ⟨⟨?_, hH.none, hH.inj, ?_, fun i g o s c h => Nat.lt_of_lt_of_le (hH.live i g o s c h) hg.size, ?_, hH.tab.mono hle (fun g h => hg.heap g (hH.fsz g h))⟩, ⟨fun _ => JI.le_refl _, hle, ?_, fun g h => .inl h, fun g h _ => hg.heap g h, hg.size, hg.os, hg.tape, hg.output⟩⟩
 ·intro i b hb
  exact (hH.blk i b hb).mono (fun _ => JI.le_refl _) rfl hle (fun g h => hg.heap g (hH.fsz g h)) (fun g s c h => hg.heap g (hH.live _ _ _ _ _ h))
 ·rintro g ho (h | h)
  ·exact hH.own g ho h
  ·rcases hF g h with h | h
   ·exact hH.own g ho h
   ·obtain ⟨i, s, c, hi⟩ := ho
    have := hH.live _ _ _ _ _ hi;omega
 ·rintro g (h | h)
  ·exact Nat.lt_of_lt_of_le (hH.fsz g h) hg.size
  ·exact hsz g h
 ·rintro g (h | h)
  ·exact .inl h
  ·exact (hF g h).elim .inl (fun h => .inr (.inr h))
theorem qwH (hH : HRel J F w H) {f : FuncId} {spec : List DV->Option DV} (hok : qdF P f spec) {avs : List AV} {vs : List Value} (hv : vs.length = avs.length/\∀ (j : Nat) y v, avs[j]? = some y->vs[j]? = some v->VRel J F w y v)
  {x : AV} {ids : List Id} {H' : Hp} (hc : qwG spec H avs = some (x, ids)) (hf : fix H ids = some H') :
  Calls P f vs.toArray w fun e w' => ∃ v J' F', e = .returned v/\VRel J' F' w' x v/\HRel J' F' w' H'/\Ext J F w J' F' w' := by
 unfold qwG at hc;split at hc
 ·rename_i ds ids' hd
  split at hc
  ·rename_i r hr
   simp only [Option.some.injEq, Prod.mk.injEq] at hc;obtain ⟨rfl, hids⟩ := hc;obtain ⟨hl, hrep⟩ := (qt0 hH 99).2 _ _ _ hd
   have hargs : qdZ (qdY J F ids') w ds vs := by
    refine ⟨by rw [hv.1, hl], fun j d v h1 h2 => ?_⟩;have hj : j < avs.length := by rw [← hl]; exact (List.getElem?_eq_some_iff.1 h1).1
    exact hrep j _ d v (List.getElem?_eq_getElem hj) h1 (hv.2 j _ v (List.getElem?_eq_getElem hj) h2)
   have hsz : ∀ g, qdY J F ids' g->g < w.heap.size := by
    rintro g (hg | ⟨i, _, s, c, h1⟩)
    ·exact hH.fsz g hg
    ·exact hH.live _ _ _ _ _ h1
   have hcall := hok.2 ds r hr _ w vs hargs hsz (hH.tab.mono (fun g h => .inl h) (fun _ _ => rfl));by_cases hflat : r.flat = true
   ·rw [if_pos hflat] at hids
    subst hids;simp only [fix, Option.some.injEq] at hf;subst hf;refine hcall.mono ?_
    rintro e w' ⟨v, F', he, hv', hF', hsz', hg⟩;obtain ⟨h1, h2⟩ := qbM (F' := fun _ => False) hH hg (by simp) (by simp);exact ⟨v, J, _, he, .val _ _ (hv'.flat hflat), h1, h2⟩
   ·rw [if_neg hflat] at hids
    subst hids;obtain ⟨J', F1, hH1, he1, hle⟩ := qbL hH hf;refine hcall.mono ?_
    rintro e w' ⟨v, F', he, hv', hF', hsz', hg⟩;obtain ⟨h1, h2⟩ := qbM (F' := F') hH1 hg (fun g h => (hF' g h).elim (fun h => .inl (hle g h)) .inr) hsz';exact ⟨v, J', _, he, .val _ _ (hv'.mono (fun g h => .inr h) (fun _ _ => rfl)), h1, he1.trans h2⟩
  ·cases hc
 ·cases hc
end
def qsN : List (Nat × Operand)->Option (List (Nat × Opd))
 | [] => some []
 | (i, x) :: l => match qo5 x, qsN l with
  | some y, some m => some ((i, y) :: m)
  | _, _ => none
def hasFn (P : Program) : Nat->TypeId->Bool
 | 0, _ => false
 | k + 1, t => match P.underlying t with
  | some (.pointer _) => true
  | some (.func ..) => true
  | some (.struct fs) => fs.any fun f => hasFn P k f.type
  | _ => false
def compA (P : Program) (o : Oper) : Option AlOp :=
 match o.op with
 | .alloc t => (qr2 P t).map .alloc
 | .box _ x => (qo5 x).map .bx
 | .buildSlice t n ps => match P.underlying t with
  | some (.slice e) => match qr2 P e, qsN ps.toList with
   | some z, some qs => if z.length = P.cellsOf e/\0 < P.cellsOf e/\n * P.cellsOf e<=16777216 then some (if hasFn P 9 e = true then .bsf (P.cellsOf e) n z qs else .bsl (P.cellsOf e) n z qs) else none
   | _, _ => none
  | _ => none
 | .makeSlice t l c => match P.underlying t with
  | some (.slice e) => match qr2 P e, qo5 l, qo5 c with
   | some z, some l', some c' => if z.length = P.cellsOf e/\0 < P.cellsOf e then some (.mks (P.cellsOf e) (P.bytesOf e) z l' c') else none
   | _, _, _ => none
  | _ => none
 | _ => none
section
variable {P : Program} {J : Id->JI} {F : Nat->Prop} {w : World} {H : Hp} {ρ : Opd->AV} {a : Act}
theorem lit1_one {v : Value} {d : DV} (h : lit1 v = some d) : v.oneCell' = true := by
 unfold lit1 at h;split at h <;> first | rfl | cases h
theorem qt1 : ∀ {l : List Value} {ds : List DV}, lits l = some ds->∀ (j : Nat) v, l[j]? = some v->v.oneCell' = true
 | [], _, _, j, v, hv => by simp at hv
 | u :: l, ds, h, j, v, hv => by
  simp only [lits] at h;split at h
  ·cases h
   rename_i h1 h2;cases j with
   | zero => simp at hv; subst hv; exact lit1_one h1
   | succ j => simp at hv; exact qt1 h2 j v hv
  ·cases h
theorem VRel.one {x : AV} {v : Value} (h : VRel J F w x v) (hs : x.single = true) : v.oneCell' = true := by
 cases h with
 | val d _ h => exact h.one hs
 | agg => simp [AV.single] at hs
 | tup => simp [AV.single] at hs
 | may => simp [AV.single] at hs
 | junk => simp [AV.single] at hs
 | _ => rfl
theorem zm4 (hH : HRel J F w H) {id : Id} (hid : H id = none) {e : TypeId} {v : Value} {l : List AV} (hl : v.cells.toList.length = l.length) (hr : ∀ (j : Nat) y u, l[j]? = some y->v.cells.toList[j]? = some u->VRel J F w y u)
  (h1 : ∀ (j : Nat) u, v.cells.toList[j]? = some u->u.oneCell' = true) :
  ∃ J', HRel J' F (w.alloc (.cells v.cells e)) (upd H id (some (.box l)))/\Ext J F w J' F (w.alloc (.cells v.cells e))/\VRel J' F (w.alloc (.cells v.cells e)) (.box id 0) (.pointer (some ⟨w.heap.size, 0, none⟩)) := by
 obtain ⟨h2, h3⟩ := qkK hH id hid (.cells v.cells e) 1 l.length (.box l) (by
  intro J' hJ' hV hR;subst hJ';refine .box l w.heap.size 1 l.length v.cells e (qa6 _ _ _) (heap_alloc_new w _) (by simpa using hl) ?_ ?_ ⟨rfl, rfl⟩
  ·intro j y u h2 h3
   exact hV y u (hr j y u h2 (by simpa using h3))
  ·intro j u h2
   exact h1 j u (by simpa using h2))
 exact ⟨_, h2, h3, .box id 0 _ true 1 l.length (qa6 _ _ _)⟩
structure Grid (F : Nat->Prop) (w : World) (s : Nat) (es : List (List DV)) (vs : List Value) : Prop where
 len : es.length * s<=vs.length
 el : ∀ x ∈ es, x.length = s
 rep : ∀ (i j : Nat) x d v, es[i]? = some x->x[j]? = some d->vs[i * s + j]? = some v->Rep F w d v
 one : ∀ (j : Nat) v, vs[j]? = some v->v.oneCell' = true
theorem qsO {i s j : Nat} (hj : j < s) : (i * s + j) / s = i/\(i * s + j) % s = j := by
 constructor
 ·rw [Nat.mul_comm, Nat.mul_add_div (by omega), Nat.div_eq_of_lt hj, Nat.add_zero]
 ·rw [Nat.mul_comm, Nat.mul_add_mod, Nat.mod_eq_of_lt hj]
theorem qkN {z : List DV} {v : Value} {s : Nat} (hs : 0 < s) (hz : qg0 F w z v.cells.toList) (hzl : z.length = s) (h1 : ∀ (j : Nat) u, v.cells.toList[j]? = some u->u.oneCell' = true) (n : Nat) :
  Grid F w s (List.replicate n z) (madeCells v.cells (n * s)).toList/\(madeCells v.cells (n * s)).size = n * s := by
 have hsz : v.cells.size = s := by have := hz.1; simpa [hzl] using this
 have get : ∀ k u, (madeCells v.cells (n * s)).toList[k]? = some u->k < n * s/\v.cells.toList[k % s]? = some u := by
  intro k u hk;have hlt : k < n * s := by have := (List.getElem?_eq_some_iff.1 hk).1; simpa [madeCells] using this
  refine ⟨hlt, ?_⟩;simp only [madeCells, Array.toList_map, Array.toList_range, List.getElem?_map, List.getElem?_range hlt, Option.map_some, Option.some.injEq] at hk;subst hk;have hm : k % s < s := Nat.mod_lt _ hs;rw [hsz];simp [getElem!_pos, hsz, hm]
 refine ⟨⟨by simp [madeCells], ?_, ?_, ?_⟩, by simp [madeCells]⟩
 ·intro x hx
  rw [List.eq_of_mem_replicate hx];exact hzl
 ·intro i j x d u hx hd hu
  have hx := List.eq_of_mem_replicate (List.mem_of_getElem? hx);subst hx;obtain ⟨_, hg⟩ := get _ _ hu;have hj : j < s := by have := (List.getElem?_eq_some_iff.1 hd).1; omega
  rw [(qsO hj).2] at hg;exact hz.2 j d u hd hg
 ·intro j u hu
  exact h1 _ u (get _ _ hu).2
theorem Grid.set {s : Nat} {es : List (List DV)} {vs us : List Value} {i : Nat} {ds : List DV} (hg : Grid F w s es vs) (hr : qg0 F w ds us) (hl : ds.length = s) (hi : i < es.length) (h1 : ∀ (j : Nat) u, us[j]? = some u->u.oneCell' = true) :
  Grid F w s (es.set i ds) (splice vs (i * s) us)/\(splice vs (i * s) us).length = vs.length/\i * s + us.length<=vs.length := by
 have hb : i * s + us.length<=vs.length := by
  have : (i + 1) * s<=es.length * s := Nat.mul_le_mul_right _ hi;rw [Nat.succ_mul] at this;have := hg.len;have := hr.1;omega
 have hul : us.length = s := by rw [hr.1, hl]
 refine ⟨⟨by rw [List.length_set, qc8 _ _ _ hb]; exact hg.len, ?_, ?_, ?_⟩, qc8 _ _ _ hb, hb⟩
 ·intro x hx
  rcases List.mem_or_eq_of_mem_set hx with h | h
  ·exact hg.el x h
  ·rw [h, hl]
 ·intro k j x d v hx hd hv
  rw [qe5 _ _ _ hb] at hv;by_cases hk : k = i
  ·subst hk
   rw [List.getElem?_set_self hi] at hx;cases hx;have hj : j < s := by have := (List.getElem?_eq_some_iff.1 hd).1; omega
   rw [if_neg (by omega), if_pos (by omega), Nat.add_sub_cancel_left] at hv;exact hr.2 j d v hd hv
  ·rw [List.getElem?_set_ne (by omega)] at hx
   have hj : j < s := by have := (List.getElem?_eq_some_iff.1 hd).1; rwa [hg.el x (List.mem_of_getElem? hx)] at this
   have hv' : vs[k * s + j]? = some v := by
    by_cases h2 : k * s + j < i * s
    ·rwa [if_pos h2] at hv
    ·rw [if_neg h2] at hv
     have h3 : ¬ k * s + j < i * s + us.length := by
      rw [hul];intro h4
      have : k < i + 1 := by
       rcases Nat.lt_or_ge k (i + 1) with h | h
       ·exact h
       ·have := Nat.mul_le_mul_right s h; rw [Nat.succ_mul] at this; omega
      have : i < k + 1 := by
       rcases Nat.lt_or_ge i (k + 1) with h | h
       ·exact h
       ·have := Nat.mul_le_mul_right s h; rw [Nat.succ_mul] at this; omega
      omega
     rwa [if_neg h3] at hv
   exact hg.rep k j x d v hx hd hv'
 ·intro j v hv
  rw [qe5 _ _ _ hb] at hv;split at hv
  ·exact hg.one j v hv
  ·split at hv
   ·exact h1 _ v hv
   ·exact hg.one j v hv
theorem with_nil {g : Nat} (h : qdY J F [] g) : F g := h.elim id (fun ⟨_, h, _⟩ => by cases h)
theorem qhZ (hH : HRel J F w H) (hr : qz7 J F w ρ a) {s : Nat} : ∀ {ps : List (Nat × Operand)} {qs : List (Nat × Opd)} {es fs : List (List DV)} {vs : List Value}, qsN ps = some qs->ql9 H ρ s es qs = some fs->Grid F w s es vs →
  ∃ us : List Value, Instr.fill (fun i => some (i * s, s)) vs.toArray (ps.map fun (i, x) => (i, a.eval x)) = some us.toArray/\Grid F w s fs us/\us.length = vs.length/\fs.length = es.length
 | [], qs, es, fs, vs, hc, hp, hg => by
  simp [qsN] at hc;subst hc;simp only [ql9, Option.some.injEq] at hp;subst hp;exact ⟨vs, rfl, hg, rfl, rfl⟩
 | (i, x) :: ps, qs, es, fs, vs, hc, hp, hg => by
  simp only [qsN] at hc;split at hc
  ·cases hc
   rename_i y m h1 h2;simp only [ql9] at hp;split at hp
   ·rename_i cs hcs
    split at hp
    ·rename_i ds hd
     split at hp
     ·rename_i hb
      obtain ⟨hl, hi, hsg⟩ := hb;have hx := (hr.ev h1).cells hcs;obtain ⟨hdl, hdr⟩ := (qt0 hH 99).2 _ _ _ hd
      have hrel : qg0 F w ds (a.eval x).cells.toList := by
       refine ⟨by rw [hx.1, hdl], fun j d v h3 h4 => ?_⟩;have hj : j < cs.length := by rw [← hdl]; exact (List.getElem?_eq_some_iff.1 h3).1
       exact (hdr j _ d v (List.getElem?_eq_getElem hj) h3 (hx.2 j _ v (List.getElem?_eq_getElem hj) h4)).mono (fun g h => with_nil h) (fun _ _ => rfl)
      have hone : ∀ (j : Nat) u, (a.eval x).cells.toList[j]? = some u->u.oneCell' = true := by
       intro j u hu;have hj : j < ds.length := by rw [← hrel.1]; exact (List.getElem?_eq_some_iff.1 hu).1
       exact (hrel.2 j _ u (List.getElem?_eq_getElem hj) hu).one (List.all_eq_true.1 hsg _ (List.getElem_mem hj))
      obtain ⟨hg', hgl, hgb⟩ := hg.set hrel hl hi hone;obtain ⟨us, hu, hU, hul, hfl⟩ := qhZ hH hr h2 hp hg';refine ⟨us, ?_, hU, by rw [hul, hgl], by rw [hfl, List.length_set]⟩;have hsz : (a.eval x).cells.size = s := by have := hrel.1; simp only [Array.length_toList] at this; rw [this, hl]
      simp only [List.map_cons, Instr.fill];rw [if_neg (by simp only [hsz, ne_eq, not_true_eq_false, decide_false, Bool.false_or, decide_eq_true_eq]; simp only [Array.length_toList, hsz] at hgb; simp; omega)];have hf := qgQ vs (a.eval x).cells.toList (i * s) hgb;rw [Array.toArray_toList] at hf;rw [hf];exact hu
     ·cases hp
    ·cases hp
   ·cases hp
  ·cases hc
structure GridA (J : Id->JI) (F : Nat->Prop) (w : World) (s : Nat) (es : List (List AV)) (vs : List Value) : Prop where
 len : es.length * s<=vs.length
 el : ∀ x ∈ es, x.length = s
 rep : ∀ (i j : Nat) x d v, es[i]? = some x->x[j]? = some d->vs[i * s + j]? = some v->VRel J F w d v
 one : ∀ (j : Nat) v, vs[j]? = some v->v.oneCell' = true
theorem GridA.of {s : Nat} {es : List (List DV)} {vs : List Value} (hg : Grid F w s es vs) : GridA J F w s (es.map (·.map .val)) vs := by
 refine ⟨by simpa using hg.len, ?_, ?_, hg.one⟩
 ·intro x hx
  obtain ⟨y, hy, rfl⟩ := List.mem_map.1 hx;simpa using hg.el y hy
 ·intro i j x d v h1 h2 h3
  rw [List.getElem?_map] at h1;cases hq : es[i]? with
  | none => rw [hq] at h1; cases h1
  | some y =>
   rw [hq] at h1;cases h1;rw [List.getElem?_map] at h2;cases hr : y[j]? with
   | none => rw [hr] at h2; cases h2
   | some z =>
    rw [hr] at h2;cases h2;exact .val _ _ (hg.rep i j y z v hq hr h3)
theorem GridA.set {s : Nat} {es : List (List AV)} {vs us : List Value} {i : Nat} {ds : List AV} (hg : GridA J F w s es vs) (hr : us.length = ds.length/\∀ (j : Nat) y u, ds[j]? = some y->us[j]? = some u->VRel J F w y u) (hl : ds.length = s) (hi : i < es.length) (h1 : ∀ (j : Nat) u, us[j]? = some u->u.oneCell' = true) :
  GridA J F w s (es.set i ds) (splice vs (i * s) us)/\(splice vs (i * s) us).length = vs.length/\i * s + us.length<=vs.length := by
 have hb : i * s + us.length<=vs.length := by
  have : (i + 1) * s<=es.length * s := Nat.mul_le_mul_right _ hi;rw [Nat.succ_mul] at this;have := hg.len;have := hr.1;omega
 have hul : us.length = s := by rw [hr.1, hl]
 refine ⟨⟨by rw [List.length_set, qc8 _ _ _ hb]; exact hg.len, ?_, ?_, ?_⟩, qc8 _ _ _ hb, hb⟩
 ·intro x hx
  rcases List.mem_or_eq_of_mem_set hx with h | h
  ·exact hg.el x h
  ·rw [h, hl]
 ·intro k j x d v hx hd hv
  rw [qe5 _ _ _ hb] at hv;by_cases hk : k = i
  ·subst hk
   rw [List.getElem?_set_self hi] at hx;cases hx;have hj : j < s := by have := (List.getElem?_eq_some_iff.1 hd).1; omega
   rw [if_neg (by omega), if_pos (by omega), Nat.add_sub_cancel_left] at hv;exact hr.2 j d v hd hv
  ·rw [List.getElem?_set_ne (by omega)] at hx
   have hj : j < s := by have := (List.getElem?_eq_some_iff.1 hd).1; rwa [hg.el x (List.mem_of_getElem? hx)] at this
   have hv' : vs[k * s + j]? = some v := by
    by_cases h2 : k * s + j < i * s
    ·rwa [if_pos h2] at hv
    ·rw [if_neg h2] at hv
     have h3 : ¬ k * s + j < i * s + us.length := by
      rw [hul];intro h4
      have : k < i + 1 := by
       rcases Nat.lt_or_ge k (i + 1) with h | h
       ·exact h
       ·have := Nat.mul_le_mul_right s h; rw [Nat.succ_mul] at this; omega
      have : i < k + 1 := by
       rcases Nat.lt_or_ge i (k + 1) with h | h
       ·exact h
       ·have := Nat.mul_le_mul_right s h; rw [Nat.succ_mul] at this; omega
      omega
     rwa [if_neg h3] at hv
   exact hg.rep k j x d v hx hd hv'
 ·intro j v hv
  rw [qe5 _ _ _ hb] at hv;split at hv
  ·exact hg.one j v hv
  ·split at hv
   ·exact h1 _ v hv
   ·exact hg.one j v hv
theorem qfI (hr : qz7 J F w ρ a) {s : Nat} : ∀ {ps : List (Nat × Operand)} {qs : List (Nat × Opd)} {es fs : List (List AV)} {vs : List Value}, qsN ps = some qs->qm9 ρ s es qs = some fs->GridA J F w s es vs →
  ∃ us : List Value, Instr.fill (fun i => some (i * s, s)) vs.toArray (ps.map fun (i, x) => (i, a.eval x)) = some us.toArray/\GridA J F w s fs us/\us.length = vs.length/\fs.length = es.length
 | [], qs, es, fs, vs, hc, hp, hg => by
  simp [qsN] at hc;subst hc;simp only [qm9, Option.some.injEq] at hp;subst hp;exact ⟨vs, rfl, hg, rfl, rfl⟩
 | (i, x) :: ps, qs, es, fs, vs, hc, hp, hg => by
  simp only [qsN] at hc;split at hc
  ·cases hc
   rename_i y m h1 h2;simp only [qm9] at hp;split at hp
   ·rename_i cs hcs
    split at hp
    ·rename_i hb
     obtain ⟨hl, hi, hsg⟩ := hb;have hx := (hr.ev h1).cells hcs
     have hone : ∀ (j : Nat) u, (a.eval x).cells.toList[j]? = some u->u.oneCell' = true := by
      intro j u hu;have hj : j < cs.length := by rw [← hx.1]; exact (List.getElem?_eq_some_iff.1 hu).1
      exact (hx.2 j _ u (List.getElem?_eq_getElem hj) hu).one (List.all_eq_true.1 hsg _ (List.getElem_mem hj))
     obtain ⟨hg', hgl, hgb⟩ := hg.set hx hl hi hone;obtain ⟨us, hu, hU, hul, hfl⟩ := qfI hr h2 hp hg';refine ⟨us, ?_, hU, by rw [hul, hgl], by rw [hfl, List.length_set]⟩;have hsz : (a.eval x).cells.size = s := by have := hx.1; simp only [Array.length_toList] at this; rw [this, hl]
     simp only [List.map_cons, Instr.fill];rw [if_neg (by simp only [hsz, ne_eq, not_true_eq_false, decide_false, Bool.false_or, decide_eq_true_eq]; simp only [Array.length_toList, hsz] at hgb; simp; omega)];have hf := qgQ vs (a.eval x).cells.toList (i * s) hgb;rw [Array.toArray_toList] at hf;rw [hf];exact hu
    ·cases hp
   ·cases hp
  ·cases hc
theorem new_fns (hH : HRel J F w H) {id : Id} (hid : H id = none) {e : TypeId} {s cap : Nat} {cur : Array Value} {es : List (List AV)} (hg : GridA J F w s es cur.toList) (hs : cur.size = cap * s) (hn : es.length<=cap) :
  ∃ J', HRel J' F (w.alloc (.cells cur e)) (upd H id (some (.fns s es)))/\Ext J F w J' F (w.alloc (.cells cur e))/\VRel J' F (w.alloc (.cells cur e)) (.row id s 0 es.length) (.slice (some ⟨w.heap.size, 0, none⟩) es.length cap) := by
 obtain ⟨h2, h3⟩ := qkK hH id hid (.cells cur e) s cap (.fns s es) (by
  intro J' hJ' hV hR;subst hJ';refine .fns s es w.heap.size cap cur e (qa6 _ _ _) (heap_alloc_new w _) hs hn hg.el ?_ ?_
  ·intro i j x d v h2 h3 h4
   exact hV d v (hg.rep i j x d v h2 h3 (by simpa using h4))
  ·intro j u h2
   exact hg.one j u (by simpa using h2))
 refine ⟨_, h2, h3, ?_⟩;have := VRel.row (J := qaA J id (.live (some w.heap.size) true s cap)) (F := F) (w := w.alloc (.cells cur e)) id 0 es.length w.heap.size true s cap (qa6 _ _ _) (by omega);simpa using this
theorem qkO (hH : HRel J F w H) {id : Id} (hid : H id = none) {e : TypeId} {s cap : Nat} {cur : Array Value} {es : List (List DV)} (hg : Grid F w s es cur.toList) (hs : cur.size = cap * s) (hn : es.length<=cap) (hm : cap<=maxLen) :
  ∃ J', HRel J' F (w.alloc (.cells cur e)) (upd H id (some (.row s es)))/\Ext J F w J' F (w.alloc (.cells cur e))/\VRel J' F (w.alloc (.cells cur e)) (.row id s 0 es.length) (.slice (some ⟨w.heap.size, 0, none⟩) es.length cap) := by
 obtain ⟨h2, h3⟩ := qkK hH id hid (.cells cur e) s cap (.row s es) (by
  intro J' hJ' hV hR;subst hJ';refine .row s es w.heap.size cap cur e (qa6 _ _ _) (heap_alloc_new w _) hs hn hm hg.el ?_ ?_
  ·intro i j x d v h2 h3 h4
   exact hR d v (hg.rep i j x d v h2 h3 (by simpa using h4))
  ·intro j u h2
   exact hg.one j u (by simpa using h2))
 refine ⟨_, h2, h3, ?_⟩;have := VRel.row (J := qaA J id (.live (some w.heap.size) true s cap)) (F := F) (w := w.alloc (.cells cur e)) id 0 es.length w.heap.size true s cap (qa6 _ _ _) (by omega);simpa using this
theorem qwI {C : FuncId->Con} (hH : HRel J F w H) (hr : qz7 J F w ρ a) {o : Oper} {p : AlOp} (hc : compA P o = some p) {id : Id} (hid : H id = none) {x : AV} {b : Blk} (hs : qfF C H ρ id p = some (x, b)) : zf3 P J F w a o x (upd H id (some b)) := by
 unfold compA at hc;split at hc
 ·rename_i t ho
  simp only [Option.map_eq_some_iff] at hc;obtain ⟨z, hz, rfl⟩ := hc;simp only [qfF] at hs;split at hs
  ·cases hs
   obtain ⟨i, v, hi, hv, hzr, hzc⟩ := qx6 (F := F) (w := w) hz;have hl := hzc.toV (J := J)
   have h1 : ∀ (j : Nat) u, v.cells.toList[j]? = some u->u.oneCell' = true := by
    unfold qr2 at hz;rw [hi] at hz;simp only [hv] at hz;exact qt1 hz
   obtain ⟨J', q1, q2, q3⟩ := zm4 (e := t) hH hid hl.1 hl.2 h1;refine qp2 ?_ q3 q1 q2
   unfold execOp;simp only [ho, Instr.alloc, newVar, newRow, Sem.run_bind, hzr, Result.andThen_ok, run_newObj_alloc, Sem.run_pure]
  ·cases hs
 ·rename_i t y ho
  simp only [Option.map_eq_some_iff] at hc;obtain ⟨x', hx, rfl⟩ := hc;simp only [qfF] at hs;split at hs
  ·rename_i cs hcs
   split at hs
   ·rename_i hsg
    cases hs;have hl := (hr.ev hx).cells hcs
    obtain ⟨J', q1, q2, q3⟩ := zm4 (e := t) hH hid hl.1 hl.2 (by
     intro j u hu;have hj : j < cs.length := by rw [← hl.1]; exact (List.getElem?_eq_some_iff.1 hu).1
     exact (hl.2 j _ u (List.getElem?_eq_getElem hj) hu).one (List.all_eq_true.1 hsg _ (List.getElem_mem hj)))
    refine qp2 ?_ q3 q1 q2
    unfold execOp;simp only [ho, Instr.box, newVar, newRow, Sem.run_bind, Result.andThen_ok, run_newObj_alloc, Sem.run_pure]
   ·cases hs
  ·cases hs
 ·rename_i t n ps ho
  split at hc
  ·rename_i e ht
   split at hc
   ·rename_i z qs hz hq
    split at hc
    ·rename_i hb
     obtain ⟨hzl, hs0, h24⟩ := hb;split at hc
     ·cases hc
      simp only [qfF] at hs;split at hs
      ·cases hs
      ·rename_i hnn
       simp only [Option.map_eq_some_iff] at hs;obtain ⟨es, hes, he⟩ := hs;cases he;obtain ⟨i, v, hi, hv, hzr, hzc⟩ := qx6 (F := F) (w := w) hz
       have h1 : ∀ (j : Nat) u, v.cells.toList[j]? = some u->u.oneCell' = true := by
        unfold qr2 at hz;rw [hi] at hz;simp only [hv] at hz;exact qt1 hz
       obtain ⟨hgm, hgs⟩ := qkN hs0 hzc (by simpa using hzl) h1 n;have hgm' := GridA.of (J := J) hgm;rw [List.map_replicate] at hgm';obtain ⟨us, hu, hU, hul, hfl⟩ := qfI hr hq hes hgm';have hel : es.length = n := by rw [hfl, List.length_replicate]
       have husz : us.length = n * P.cellsOf e := by rw [hul]; simpa using hgs
       obtain ⟨J', q1, q2, q3⟩ := new_fns (e := e) (cur := us.toArray) (cap := n) hH hid (by simpa using hU) (by simpa using husz) (by omega);rw [hel] at q3;refine qp2 ?_ q3 q1 q2
       have hcs : P.cellsOf e = i.size := qf1 hi;rw [hcs] at hs0 h24 hu;have hn24 : ¬ (n * i.size > 2 ^ 24) := by omega
       have hf : Instr.fill (fun j => some (j * i.size, i.size)) (madeCells v.cells (n * i.size)) (ps.map fun (i, x) => (i, a.eval x)).toList = some us.toArray := by
        rw [Array.toArray_toList] at hu;simpa using hu
       unfold execOp;simp only [ho, Instr.buildSlice, Sem.run_bind, run_underlying ht, Result.andThen_ok, qd0 hi];rw [if_neg hn24];by_cases h0 : n * i.size = 0
       ·have hmade : (Array.range (n * i.size)).map (fun x => (#[] : Array Value)[x % (#[] : Array Value).size]!) = madeCells v.cells (n * i.size) := by simp [h0, madeCells]
        rw [← hmade] at hf;simp only [if_pos h0, Sem.run_bind, Sem.run_pure, Result.andThen_ok];simp only [hf, newRow, run_newObj_alloc, Sem.run_bind, Result.andThen_ok, Sem.run_pure]
       ·have hmade : (Array.range (n * i.size)).map (fun x => v.cells[x % v.cells.size]!) = madeCells v.cells (n * i.size) := rfl
        rw [← hmade] at hf;simp only [if_neg h0, Sem.run_bind, hzr, Sem.run_pure, Result.andThen_ok];simp only [hf, newRow, run_newObj_alloc, Sem.run_bind, Result.andThen_ok, Sem.run_pure]
     ·cases hc
      simp only [qfF] at hs;split at hs
      ·cases hs
      ·rename_i hnn
       simp only [Option.map_eq_some_iff] at hs;obtain ⟨es, hes, he⟩ := hs;cases he;obtain ⟨i, v, hi, hv, hzr, hzc⟩ := qx6 (F := F) (w := w) hz
       have h1 : ∀ (j : Nat) u, v.cells.toList[j]? = some u->u.oneCell' = true := by
        unfold qr2 at hz;rw [hi] at hz;simp only [hv] at hz;exact qt1 hz
       obtain ⟨hgm, hgs⟩ := qkN hs0 (qkL hzc) (by simpa using hzl) h1 n;obtain ⟨us, hu, hU, hul, hfl⟩ := qhZ hH hr hq hes hgm;have hel : es.length = n := by rw [hfl, List.length_replicate]
       have husz : us.length = n * P.cellsOf e := by rw [hul]; simpa using hgs
       have hnm : n<=maxLen := by unfold maxLen; omega
       obtain ⟨J', q1, q2, q3⟩ := qkO (e := e) (cur := us.toArray) (cap := n) hH hid (by simpa using hU) (by simpa using husz) (by omega) hnm;rw [hel] at q3;refine qp2 ?_ q3 q1 q2
       have hcs : P.cellsOf e = i.size := qf1 hi;rw [hcs] at hs0 h24 hu;have hn24 : ¬ (n * i.size > 2 ^ 24) := by omega
       have hf : Instr.fill (fun j => some (j * i.size, i.size)) (madeCells v.cells (n * i.size)) (ps.map fun (i, x) => (i, a.eval x)).toList = some us.toArray := by
        rw [Array.toArray_toList] at hu;simpa using hu
       unfold execOp;simp only [ho, Instr.buildSlice, Sem.run_bind, run_underlying ht, Result.andThen_ok, qd0 hi];rw [if_neg hn24];by_cases h0 : n * i.size = 0
       ·have hmade : (Array.range (n * i.size)).map (fun x => (#[] : Array Value)[x % (#[] : Array Value).size]!) = madeCells v.cells (n * i.size) := by simp [h0, madeCells]
        rw [← hmade] at hf;simp only [if_pos h0, Sem.run_bind, Sem.run_pure, Result.andThen_ok];simp only [hf, newRow, run_newObj_alloc, Sem.run_bind, Result.andThen_ok, Sem.run_pure]
       ·have hmade : (Array.range (n * i.size)).map (fun x => v.cells[x % v.cells.size]!) = madeCells v.cells (n * i.size) := rfl
        rw [← hmade] at hf;simp only [if_neg h0, Sem.run_bind, hzr, Sem.run_pure, Result.andThen_ok];simp only [hf, newRow, run_newObj_alloc, Sem.run_bind, Result.andThen_ok, Sem.run_pure]
    ·cases hc
   ·cases hc
  ·cases hc
 ·rename_i t l c ho
  split at hc
  ·rename_i e ht
   split at hc
   ·rename_i z l' c' hz hl hcc
    split at hc
    ·rename_i hb
     obtain ⟨hzl, hs0⟩ := hb;cases hc;simp only [qfF] at hs;split at hs
     ·rename_i n m hn hm
      split at hs
      ·rename_i hbb
       obtain ⟨h0, rfl, hby, h62, _, _⟩ := hbb;cases hs;obtain ⟨i, v, hi, hv, hzr, hzc⟩ := qx6 (F := F) (w := w) hz
       have h1 : ∀ (j : Nat) u, v.cells.toList[j]? = some u->u.oneCell' = true := by
        unfold qr2 at hz;rw [hi] at hz;simp only [hv] at hz;exact qt1 hz
       obtain ⟨hgm, hgs⟩ := qkN hs0 (qkL hzc) (by simpa using hzl) h1 n.toNat;have hnm : n.toNat<=maxLen := by unfold maxLen; omega
       obtain ⟨J', q1, q2, q3⟩ := qkO (e := e) (cap := n.toNat) hH hid hgm hgs (by simp) hnm;rw [List.length_replicate] at q3;obtain ⟨k1, hk1⟩ := qdW hr hl hn;obtain ⟨k2, hk2⟩ := qdW hr hcc hm
       have hby' : (i.bytes : Int) * n<=281474976710656 := by
        have : P.bytesOf e = i.bytes := by simp [Program.bytesOf, hi]
        rw [this] at hby;exact hby
       have hrun := run_make (P := P) w t e i v ht hi hv k1 k2 n n h0 (Int.le_refl _) hby' (by omega);rw [← qf1 hi] at hrun;refine qp2 ?_ q3 q1 q2
       unfold execOp;simp only [ho, hk1, hk2, Sem.run_bind, hrun, Result.andThen_ok, Sem.run_pure]
      ·cases hs
     ·cases hs
    ·cases hc
   ·cases hc
  ·cases hc
 ·cases hc
end
section
variable {P : Program} {J : Id->JI} {F : Nat->Prop} {w : World} {H : Hp} {ρ : Opd->AV} {a : Act}
theorem qgS (hH : HRel J F w H) {b : Id} {g s c : Nat} (hJ : J b = .live (some g) true s c) {cur cur' : Array Value} {e : TypeId} (hg : w.heap[g]? = some (.cells cur e (0, 0))) (blk : Blk)
  (hb : (∀ x v, VRel J F w x v->VRel J F (w.setRow g cur') x v)->(∀ x v, Rep F w x v->Rep F (w.setRow g cur') x v)->(w.setRow g cur').heap[g]? = some (.cells cur' e (0, 0))->BRel J F (w.setRow g cur') b blk) :
  HRel J F (w.setRow g cur') (upd H b (some blk))/\Ext J F w J F (w.setRow g cur') := by
 have hsz : (w.setRow g cur').heap.size = w.heap.size := by simp [World.setRow]
 have hoth : ∀ k, k ≠ g->(w.setRow g cur').heap[k]? = w.heap[k]? := fun k hk => setRow_other w g k cur' hk
 have hown : Own J g := ⟨b, s, c, hJ⟩;have hF : ∀ k, F k->(w.setRow g cur').heap[k]? = w.heap[k]? := fun k hk => hoth k (fun e => hH.own g hown (e ▸ hk))
 have hgl : g < w.heap.size := hH.live _ _ _ _ _ hJ
 refine ⟨⟨?_, ?_, hH.inj, hH.own, fun i k o s c h => by rw [hsz]; exact hH.live i k o s c h, fun k hk => by rw [hsz]; exact hH.fsz k hk, hH.tab.mono (fun _ h => h) hF⟩,
  ⟨fun _ => JI.le_refl _, fun _ h => h, fun _ h => .inl h, fun _ h => .inl h, fun k hk ho => hoth k (fun e => ho (e ▸ hown)), by rw [hsz]; exact Nat.le_refl _, rfl, rfl, rfl⟩⟩
 ·intro i bb hbb
  by_cases e' : i = b
  ·subst e'
   rw [qc0] at hbb;cases hbb;exact hb (fun x v h => h.mono (fun _ => JI.le_refl _) (fun _ h => h) hF) (fun x v h => h.mono (fun _ h => h) hF) (setRow_heap w g cur cur' e _ hg)
  ·rw [qc1 _ _ e'] at hbb
   refine (hH.blk i bb hbb).mono (fun _ => JI.le_refl _) rfl (fun _ h => h) hF (fun k s' c' hk => hoth k (fun e2 => ?_));subst e2;exact e' (hH.inj _ _ _ _ _ _ _ _ _ hk hJ)
 ·intro i hi
  by_cases e' : i = b
  ·subst e'; rw [qc0] at hi; cases hi
  ·rw [qc1 _ _ e'] at hi; exact hH.none i hi
theorem qq9 (cur : Array Value) (o : Nat) (vs : List Value) : (cur.toList.take o ++ vs ++ cur.toList.drop (o + vs.length)).toArray = (splice cur.toList o vs).toArray := rfl
theorem qkP {t : TypeId} {i : TypeInfo} (hi : P.info? t = some i) {g o : Nat} {v : Value} {cur : Array Value} {e : TypeId} (hg : w.heap[g]? = some (.cells cur e (0, 0))) (hl : v.cells.toList.length = i.size) (hfit : o + v.cells.toList.length<=cur.size)
  (h1 : ∀ u ∈ v.cells.toList, u.oneCell' = true) : (Instr.storeAt t (.pointer (some ⟨g, o, none⟩)) v).run P w = .ok () (w.setRow g (splice cur.toList o v.cells.toList).toArray) := by
 have := run_storeCells_at P g o e v.cells.toList 0 cur w hg (by simpa using hfit) h1;simp only [Nat.add_zero] at this;have hsz : ¬ (v.cells.size ≠ i.size) := by simpa using hl
 simp only [Instr.storeAt, Instr.sureAddr, storeVar, Sem.run_bind, Sem.run_pure, Result.andThen_ok, qd0 hi, if_neg hsz, this, qq9]
theorem qw8 {α : Type} {l : List α} {p : α->Prop} (h : ∀ (j : Nat) u, l[j]? = some u->p u) : ∀ u ∈ l, p u := by
 intro u hu;obtain ⟨i, hi⟩ := List.getElem?_of_mem hu
 exact h i u hi
theorem zm5 (hH : HRel J F w H) {b : Id} {o : Nat} {cells cs : List AV} {t : TypeId} {i : TypeInfo} (hi : P.info? t = some i) {p v : Value} (hp : VRel J F w (.box b o) p) (hb : H b = some (.box cells))
  (hl : v.cells.toList.length = cs.length) (hr : ∀ (j : Nat) y u, cs[j]? = some y->v.cells.toList[j]? = some u->VRel J F w y u) (hsg : cs.all AV.single = true) (hn : cs.length = i.size) (hfit : o + cs.length<=cells.length) :
  ∃ w', (Instr.storeAt t p v).run P w = .ok () w'/\HRel J F w' (upd H b (some (.box (splice cells o cs))))/\Ext J F w J F w' := by
 have hone : ∀ (j : Nat) u, v.cells.toList[j]? = some u->u.oneCell' = true := by
  intro j u hu;have hj : j < cs.length := by rw [← hl]; exact (List.getElem?_eq_some_iff.1 hu).1
  exact (hr j _ u (List.getElem?_eq_getElem hj) hu).one (List.all_eq_true.1 hsg _ (List.getElem_mem hj))
 cases hH.blk _ _ hb with
 | box _ g s c cur e hJ hg hs hc h1 h2 =>
  cases hp with
  | box _ _ g' own' s' c' hJ' =>
   rw [hJ] at hJ'; cases hJ';have hrun := qkP (P := P) (o := o) hi hg (by rw [hl, hn]) (by rw [hl, hs]; exact hfit) (qw8 hone)
   obtain ⟨q1, q2⟩ := qgS hH hJ (cur' := (splice cur.toList o v.cells.toList).toArray) hg (.box (splice cells o cs)) (by
    intro hV hR hg';have hrel := qnY (J := J) (F := F) (w := w) (o := o) (l := cells) (xs := cs) (vs := cur.toList) (us := v.cells.toList) ⟨by simpa using hs, fun j y u h2 h3 => hc j y u h2 (by simpa using h3)⟩ ⟨hl, hr⟩ hfit;refine .box _ g s c _ e hJ hg' ?_ ?_ ?_ ⟨h2.1, by rw [h2.2, qc8 _ _ _ hfit]⟩
    ·simpa using hrel.1
    ·intro j y u h2 h3
     exact hV y u (hrel.2 j y u h2 (by simpa using h3))
    ·intro j u h2
     have h2 : (splice cur.toList o v.cells.toList)[j]? = some u := by simpa using h2
     rw [qe5 _ _ _ (by rw [hl]; simpa [hs] using hfit)] at h2;split at h2
     ·exact h1 j u (by simpa using h2)
     ·split at h2
      ·exact hone _ u h2
      ·exact h1 j u (by simpa using h2))
   exact ⟨_, hrun, q1, q2⟩
  | boxDead _ _ _ hJ' => rw [hJ] at hJ'; cases hJ'
theorem zm6 (hH : HRel J F w H) {b : Id} {k o s : Nat} {es es' : List (List DV)} {ds : List DV} {t : TypeId} {i : TypeInfo} (hi : P.info? t = some i) {p v : Value} (hp : VRel J F w (.elt b k o) p) (hb : H b = some (.row s es))
  (hr : qg0 F w ds v.cells.toList) (hone : ∀ (j : Nat) u, v.cells.toList[j]? = some u->u.oneCell' = true) (hn : ds.length = i.size) (hst : qyX es k o ds = some es') :
  ∃ w', (Instr.storeAt t p v).run P w = .ok () w'/\HRel J F w' (upd H b (some (.row s es')))/\Ext J F w J F w' := by
 unfold qyX at hst;split at hst
 ·rename_i x hx
  split at hst
  ·rename_i hfit
   cases hst;cases hH.blk _ _ hb with
   | row _ _ g c cur e hJ hg hs hn' hm hel hc h1 =>
    cases hp with
    | elt _ _ _ g' own' s' c' hJ' =>
     rw [hJ] at hJ'; cases hJ';have hk : k < es.length := (List.getElem?_eq_some_iff.1 hx).1;have hxs : x.length = s := hel x (List.mem_of_getElem? hx)
     have hks : k * s + s<=cur.size := by
      have : (k + 1) * s<=c * s := Nat.mul_le_mul_right _ (by omega);rw [Nat.succ_mul] at this;omega
     have hfit' : k * s + o + v.cells.toList.length<=cur.toList.length := by rw [hr.1]; simp; omega
     have hrun := qkP (P := P) (o := k * s + o) hi hg (by rw [hr.1, hn]) (by simpa using hfit') (qw8 hone)
     obtain ⟨q1, q2⟩ := qgS hH hJ (cur' := (splice cur.toList (k * s + o) v.cells.toList).toArray) hg (.row s (es.set k (splice x o ds))) (by
      intro hV hR hg'
      have hel' : ∀ y ∈ es.set k (splice x o ds), y.length = s := by
       intro y hy;rcases List.mem_or_eq_of_mem_set hy with h | h
       ·exact hel y h
       ·rw [h, qc8 _ _ _ hfit, hxs]
      refine .row s _ g c _ e hJ hg' ?_ (by rw [List.length_set]; exact hn') hm hel' ?_ ?_
      ·rw [List.size_toArray, qc8 _ _ _ hfit']; simpa using hs
      ·intro i' j y d u h2 h3 h4
       have h4 : (splice cur.toList (k * s + o) v.cells.toList)[i' * s + j]? = some u := by simpa using h4
       have hj : j < s := by have := (List.getElem?_eq_some_iff.1 h3).1; rwa [hel' y (List.mem_of_getElem? h2)] at this
       rw [qe5 _ _ _ hfit'] at h4;by_cases hik : i' = k
       ·subst hik
        rw [List.getElem?_set_self hk] at h2;cases h2;rw [qe5 _ _ _ hfit] at h3;by_cases hj1 : j < o
        ·rw [if_pos hj1] at h3
         rw [if_pos (by omega)] at h4;exact hR d u (hc i' j x d u hx h3 (by simpa using h4))
        ·rw [if_neg hj1] at h3
         rw [if_neg (by omega)] at h4;by_cases hj2 : j < o + ds.length
         ·rw [if_pos hj2] at h3
          rw [if_pos (by rw [hr.1]; omega), show i' * s + j - (i' * s + o) = j - o by omega] at h4;exact hR d u (hr.2 _ d u h3 h4)
         ·rw [if_neg hj2] at h3
          rw [if_neg (by rw [hr.1]; omega)] at h4;exact hR d u (hc i' j x d u hx h3 (by simpa using h4))
       ·rw [List.getElem?_set_ne (by omega)] at h2
        have h5 : cur.toList[i' * s + j]? = some u := by
         by_cases hlt : i' < k
         ·have : (i' + 1) * s<=k * s := Nat.mul_le_mul_right _ hlt
          rw [Nat.succ_mul] at this
          rwa [if_pos (by omega)] at h4
         ·have hgt : k < i' := by omega
          have : (k + 1) * s<=i' * s := Nat.mul_le_mul_right _ hgt;rw [Nat.succ_mul] at this;rw [if_neg (by omega), if_neg (by rw [hr.1]; omega)] at h4;exact h4
        exact hR d u (hc i' j y d u h2 h3 (by simpa using h5))
      ·intro j u h2
       have h2 : (splice cur.toList (k * s + o) v.cells.toList)[j]? = some u := by simpa using h2
       rw [qe5 _ _ _ hfit'] at h2;split at h2
       ·exact h1 j u (by simpa using h2)
       ·split at h2
        ·exact hone _ u h2
        ·exact h1 j u (by simpa using h2))
     exact ⟨_, hrun, q1, q2⟩
    | eltDead _ _ _ _ hJ' => rw [hJ] at hJ'; cases hJ'
   | rowNil s' c hJ => simp at hx
  ·cases hst
 ·cases hst
end
section
variable {P : Program} {J : Id->JI} {F : Nat->Prop} {w : World} {H : Hp} {ρ : Opd->AV} {a : Act}
def qyZ (P : Program) (w : World) (size m : Nat) (y : Value) (news : List Value) : Prop :=
 (∀ w', w'.heap = w.heap->(Builtin.lenOf y).run P w' = .ok m w'/\(Builtin.firstCells size m y).run P w' = .ok news.toArray w')/\news.length = m * size
theorem qeA {t u ty e : TypeId} {i : TypeInfo} {du : TypeDesc} (ht : P.underlying t = some (.slice e)) (hi : P.info? e = some i) (hu : P.underlying u = some du) (hdu : (∃ e', du = .slice e')\/du = .string)
  {p : Option Addr} {n c m : Nat} {y : Value} {news : List Value} (hs : qyZ P w i.size m y news) (hroom : n + m<=c) {w' : World} (hst : ∀ b, p = some b->(storeCells (b.add (n * i.size)) news).run P w = .ok () w') (hnone : p = none->w' = w) :
  (Builtin.append_ #[t, u] ty #[.slice p n c, y]).run P w = .ok (.slice p (n + m) c) w' := by
 obtain ⟨h1, h2⟩ := hs.1 w rfl;cases p with
 | none =>
  obtain rfl := hnone rfl;rcases hdu with ⟨e', rfl⟩ | rfl <;> simp [Builtin.append_, run_underlying ht, run_underlying hu, sizeOf, typeInfo, hi, h1, hroom, h2]
 | some b =>
  have h3 := hst b rfl;rcases hdu with ⟨e', rfl⟩ | rfl <;> simp [Builtin.append_, run_underlying ht, run_underlying hu, sizeOf, typeInfo, hi, h1, hroom, h2, h3]
theorem qkQ {t u ty e : TypeId} {i : TypeInfo} {z : Value} {du : TypeDesc} (ht : P.underlying t = some (.slice e)) (hi : P.info? e = some i) (hz : i.zero = some z) (hu : P.underlying u = some du) (hdu : (∃ e', du = .slice e')\/du = .string)
  {p : Option Addr} {n c m : Nat} {y : Value} {olds news : List Value} (hs : qyZ P w i.size m y news) (ho : ∀ w', w'.heap = w.heap->(Builtin.firstCells i.size n (.slice p n c)).run P w' = .ok olds.toArray w') (hgrow : ¬ n + m<=c) (h63 : n + m<=9223372036854775807) (hfit : (n + m) * i.bytes<=140737488355328) :
  (Builtin.append_ #[t, u] ty #[.slice p n c, y]).run P w = .ok (.slice (some ⟨w.heap.size, 0, none⟩) (n + m) (grownCap w (n + m) c e))
   (w.drew.alloc (.cells ((olds ++ news).toArray ++ Builtin.zeroCells z.cells (grownCap w (n + m) c e - (n + m))) e)) := by
 obtain ⟨h1, _⟩ := hs.1 w rfl;obtain ⟨_, h2⟩ := hs.1 w.drew rfl;have h3 := ho w.drew rfl;have h63' : ¬ (9223372036854775807 < ((n : Int) + (m : Int))) := by omega
 have hf := growslice_fits (old := c) (by omega) hfit;have h48' : ¬ (281474976710656 < Builtin.nextslicecap (n + m) c * i.bytes) := by omega
 rcases hdu with ⟨e', rfl⟩ | rfl <;> simp [Builtin.append_, run_underlying ht, run_underlying hu, sizeOf, typeInfo, zeroValue, hi, hz, h1, hgrow, h63', h48', Question.forced, h2, h3, newRow, grownCap]
 all_goals
  congr 2
  apply Array.ext'
  simp [List.append_assoc]
end
section
variable {P : Program} {J : Id->JI} {F : Nat->Prop} {w : World} {H : Hp} {ρ : Opd->AV} {a : Act}
structure Src (P : Program) (F : Nat->Prop) (w : World) (s : Nat) (ys : List (List DV)) (v : Value) (news : List Value) : Prop where
 src : qyZ P w s ys.length v news
 grid : Grid F w s ys news
theorem qr5 (s : Nat) (p : Option Addr) (c : Nat) : Src P F w s [] (.slice p 0 c) [] := by
 refine ⟨⟨fun w' _ => ⟨rfl, ?_⟩, by simp⟩, ⟨by simp, by simp, by simp, by simp⟩⟩;cases p with
 | none => simp [Builtin.firstCells]
 | some b => simp [Builtin.firstCells, loadCells, loadCellsFrom]
theorem qsP {s g o c n : Nat} (f : Nat->Value) (ys : List (List DV)) (hn : ys.length = n) (hcell : ∀ k, k < n * s->w.cell? ⟨g, o + k, none⟩ = some (f k)) (hel : ∀ x ∈ ys, x.length = s)
  (hrep : ∀ i j x d, ys[i]? = some x->x[j]? = some d->Rep F w d (f (i * s + j))) (h1 : ∀ k, k < n * s->(f k).oneCell' = true) : Src P F w s ys (.slice (some ⟨g, o, none⟩) n c) ((List.range (n * s)).map f) := by
 refine ⟨⟨fun w' hw => ⟨by rw [hn]; rfl, ?_⟩, by simp [hn]⟩, ⟨by simp [hn], hel, ?_, ?_⟩⟩
 ·have h := run_firstCells_some (P := P) w' s n ⟨g, o, none⟩ n c ((List.range (n * s)).map f) (by simp) (fun j v hv => by
   obtain ⟨hj, rfl⟩ := qh2 hv;have e : w'.cell? ⟨g, o + j, none⟩ = w.cell? ⟨g, o + j, none⟩ := World.cell?_of_block (by rw [hw])
   rw [Addr.add_mid, e];exact hcell j hj)
  rw [hn];exact h
 ·intro i j x d v hx hd hv
  obtain ⟨_, rfl⟩ := qh2 hv;exact hrep i j x d hx hd
 ·intro j v hv
  obtain ⟨hj, rfl⟩ := qh2 hv;exact h1 j hj
theorem qaB {k n s : Nat} (h : k < n * s) : k / s < n/\k % s < s/\k / s * s + k % s = k := by
 have hs : 0 < s := by
  rcases Nat.eq_zero_or_pos s with rfl | h'
  ·simp at h
  ·exact h'
 refine ⟨?_, Nat.mod_lt _ hs, by rw [Nat.mul_comm]; exact Nat.div_add_mod k s⟩;rw [Nat.div_lt_iff_lt_mul hs];exact h
theorem qfJ (hH : HRel J F w H) {x : AV} {v : Value} {s : Nat} {ys : List (List DV)} (hv : VRel J F w x v) (h : elems H s x = some ys) : ∃ news, Src P F w s ys v news := by
 unfold elems at h;split at h
 ·rename_i s' l
  split at h
  ·rename_i hs
   cases h;rcases hs with hs | rfl
   rotate_left
   ·cases hv.inv_val with
    | sl0 => exact ⟨[], qr5 _ _ _⟩
    | sl => exact ⟨[], qr5 _ _ _⟩
   subst hs;cases hv.inv_val with
   | sl0 => exact ⟨[], qr5 _ _ _⟩
   | sl _ _ g o c vals hel hc hsg hF hcell hrep =>
    refine ⟨_, qsP (fun k => vals (k / s') (k % s')) ys rfl ?_ hel ?_ ?_⟩
    ·intro k hk
     obtain ⟨h1, h2, h3⟩ := qaB hk;have hx : ys[k / s']? = some ys[k / s'] := List.getElem?_eq_getElem h1
     have hl := hel _ (List.getElem_mem h1);have := hcell _ _ _ _ hx (List.getElem?_eq_getElem (show k % s' < ys[k / s'].length by omega));rw [h3] at this;exact this
    ·intro i j x d hx hd
     have hj : j < s' := by have := (List.getElem?_eq_some_iff.1 hd).1; rwa [hel x (List.mem_of_getElem? hx)] at this
     simp only [(qsO (i := i) hj).1, (qsO (i := i) hj).2];exact hrep i j x d hx hd
    ·intro k hk
     obtain ⟨h1, h2, h3⟩ := qaB hk;have hx : ys[k / s']? = some ys[k / s'] := List.getElem?_eq_getElem h1
     have hl := hel _ (List.getElem_mem h1);have hd : ys[k / s'][k % s']? = some _ := List.getElem?_eq_getElem (show k % s' < ys[k / s'].length by omega)
     exact (hrep _ _ _ _ hx hd).one (hsg _ (List.getElem_mem h1) _ (List.mem_of_getElem? hd))
  ·cases h
 ·cases h
  cases hv.inv_val;exact ⟨[], qr5 _ _ _⟩
 ·rename_i id s' o n
  split at h
  ·rename_i hs
   subst hs
   have key : ∀ es : List (List DV), (H id = some (.row s' es)\/H id = some (.frow s' es))->o + n<=es.length->ys = (es.drop o).take n->∃ news, Src P F w s' ys v news := by
    intro es hb hn hys;have hlen : ys.length = n := by rw [hys, List.length_take, List.length_drop]; omega
    by_cases h0 : n = 0
    ·subst h0
     have : ys = [] := List.eq_nil_of_length_eq_zero hlen;rw [this];cases hv with
     | row => exact ⟨[], qr5 _ _ _⟩
     | rowNil => exact ⟨[], qr5 _ _ _⟩
     | rowEnd => exact ⟨[], qr5 _ _ _⟩
     | rowDead => exact ⟨[], qr5 _ _ _⟩
    ·have mk : ∀ g cap own (f : Nat->Nat->Value), J id = .live (some g) own s' cap->(∀ e ∈ es, e.length = s')->(∀ i j e d, es[i]? = some e->e[j]? = some d->w.cell? ⟨g, i * s' + j, none⟩ = some (f i j)/\Rep F w d (f i j)/\(f i j).oneCell' = true) →
       ∃ news, Src P F w s' ys v news := by
      intro g cap own f hJ hel hall;cases hv with
      | row _ _ _ g' own' _ cap' hJ' hc' =>
       rw [hJ] at hJ'; cases hJ'
       have hel' : ∀ x ∈ ys, x.length = s' := by
        intro x hx;rw [hys] at hx;exact hel x (List.mem_of_mem_drop (List.mem_of_mem_take hx))
       have hget : ∀ i x, ys[i]? = some x->es[o + i]? = some x := by
        intro i x hx;rw [hys] at hx;exact (qf6 hx).2
       refine ⟨_, qsP (fun k => f (o + k / s') (k % s')) ys hlen ?_ hel' ?_ ?_⟩
       ·intro k hk
        obtain ⟨h1, h2, h3⟩ := qaB hk;have hx : ys[k / s']? = some (ys[k / s']'(by omega)) := List.getElem?_eq_getElem (by omega)
        have hl := hel' _ (List.mem_of_getElem? hx);have := (hall _ _ _ _ (hget _ _ hx) (List.getElem?_eq_getElem (show k % s' < (ys[k / s']'(by omega)).length by omega))).1;rw [← this]
        congr 2
        rw [Nat.add_mul, Nat.add_assoc, h3]
       ·intro i j x d hx hd
        have hj : j < s' := by have := (List.getElem?_eq_some_iff.1 hd).1; rwa [hel' x (List.mem_of_getElem? hx)] at this
        simp only [(qsO (i := i) hj).1, (qsO (i := i) hj).2];exact (hall _ _ _ _ (hget _ _ hx) hd).2.1
       ·intro k hk
        obtain ⟨h1, h2, h3⟩ := qaB hk;have hx : ys[k / s']? = some (ys[k / s']'(by omega)) := List.getElem?_eq_getElem (by omega)
        have hl := hel' _ (List.mem_of_getElem? hx);exact (hall _ _ _ _ (hget _ _ hx) (List.getElem?_eq_getElem (show k % s' < (ys[k / s']'(by omega)).length by omega))).2.2
      | rowNil => exact absurd rfl h0
      | rowEnd => exact absurd rfl h0
      | rowDead _ _ _ _ _ _ hJ' => rw [hJ] at hJ'; cases hJ'
     rcases hb with hb | hb
     ·cases hH.blk _ _ hb with
      | row _ _ g cap cur ty hJ hg hs hn' hm hel hc h1 =>
       refine mk g cap true (fun i j => cur.getD (i * s' + j) undef) hJ hel ?_
       intro i j e d he hd;have hi : i < cap := by have := (List.getElem?_eq_some_iff.1 he).1; omega
       have hj : j < s' := by have := (List.getElem?_eq_some_iff.1 hd).1; rwa [hel e (List.mem_of_getElem? he)] at this
       have : (i + 1) * s'<=cap * s' := Nat.mul_le_mul_right _ hi;rw [Nat.succ_mul] at this;have hlt : i * s' + j < cur.size := by omega
       have hq : cur[i * s' + j]? = some (cur.getD (i * s' + j) undef) := by simp [Array.getD, hlt]
       exact ⟨by rw [qc4 hg]; exact hq, hc _ _ _ _ _ he hd hq, h1 _ _ hq⟩
      | rowNil _ cap hJ => simp at hn; omega
     ·cases hH.blk _ _ hb with
      | frow _ _ g own cap vals hJ hown hF hel hsg hn' hcell hrep =>
       refine mk g cap own vals hJ hel ?_
       intro i j e d he hd;exact ⟨hcell _ _ _ _ he hd, hrep _ _ _ _ he hd, (hrep _ _ _ _ he hd).one (hsg e (List.mem_of_getElem? he) d (List.mem_of_getElem? hd))⟩
      | frowNil _ cap own hJ => simp at hn; omega
   split at h
   ·rename_i s'' es hb
    split at h
    ·rename_i hc
     cases h;obtain ⟨rfl, hn⟩ := hc;exact key es (.inl hb) hn rfl
    ·cases h
   ·rename_i s'' es hb
    split at h
    ·rename_i hc
     cases h;obtain ⟨rfl, hn⟩ := hc;exact key es (.inr hb) hn rfl
    ·cases h
   ·cases h
  ·cases h
 ·cases h
theorem str_src (b : ByteArray) : Src P F w 1 (qm7 b) (.string b) (b.data.toList.map fun x => Value.int .u8 x.toNat) := by
 refine ⟨⟨fun w' _ => ⟨?_, ?_⟩, by simp [qm7]⟩, ⟨by simp [qm7], ?_, ?_, ?_⟩⟩
 ·have : (qm7 b).length = b.size := by simp only [qm7, List.length_map, Array.length_toList]; rfl
  rw [this];rfl
 ·have : b.extract 0 (qm7 b).length = b := by
   simp only [qm7, List.length_map, Array.length_toList];exact ByteArray.extract_zero_size
  simp only [Builtin.firstCells, this, Sem.run_pure];have e : Array.map (fun x : UInt8 => Value.int .u8 (x.toNat : Int)) b.data = (b.data.toList.map fun x => Value.int .u8 x.toNat).toArray := by rw [← List.map_toArray, Array.toArray_toList]
  rw [e]
 ·intro x hx
  simp only [qm7, List.mem_map] at hx;obtain ⟨y, _, rfl⟩ := hx;rfl
 ·intro i j x d v hx hd hv
  simp only [qm7, List.getElem?_map, Option.map_eq_some_iff] at hx;obtain ⟨y, hy, rfl⟩ := hx;cases j with
  | zero =>
   simp at hd;subst hd;simp only [Nat.mul_one, Nat.add_zero, List.getElem?_map, Option.map_eq_some_iff] at hv;obtain ⟨z, hz, rfl⟩ := hv;rw [hy] at hz;cases hz;exact .int _ _
  | succ j => simp at hd
 ·intro j v hv
  simp only [List.getElem?_map, Option.map_eq_some_iff] at hv;obtain ⟨z, _, rfl⟩ := hv;rfl
end
section
variable {P : Program} {J : Id->JI} {F : Nat->Prop} {w : World} {H : Hp} {ρ : Opd->AV} {a : Act}
theorem kill (hH : HRel J F w H) (b : Id) {blk : Blk} (hb : H b = some blk) : HRel (qaA J b .dead) F w (upd H b (some .dead))/\Ext J F w (qaA J b .dead) F w := by
 have hJb : J b ≠ .none := by
  intro h;cases hH.blk _ _ hb <;> simp_all
 have hle : ∀ i, (J i).le (qaA J b .dead i) := by
  intro i;by_cases e : i = b
  ·subst e; rw [qa6]; cases h : J i <;> simp_all [JI.le]
  ·rw [qa7 _ _ e]; exact JI.le_refl _
 have hlive : ∀ {i g o s c}, qaA J b .dead i = .live g o s c->J i = .live g o s c := by
  intro i g o s c h;by_cases e : i = b
  ·subst e; rw [qa6] at h; cases h
  ·rwa [qa7 _ _ e] at h
 have hown : ∀ g, Own (qaA J b .dead) g->Own J g := fun g ⟨i, s, c, h⟩ => ⟨i, s, c, hlive h⟩
 refine ⟨⟨?_, ?_, fun i i' g o s c o' s' c' h1 h2 => hH.inj _ _ _ _ _ _ _ _ _ (hlive h1) (hlive h2), fun g hg => hH.own g (hown g hg), fun i g o s c h => hH.live _ _ _ _ _ (hlive h), hH.fsz, hH.tab⟩,
  ⟨hle, fun _ h => h, fun _ h => .inl h, fun g hg => .inl (hown g hg), fun _ _ _ => rfl, Nat.le_refl _, rfl, rfl, rfl⟩⟩
 ·intro i bb hbb
  by_cases e : i = b
  ·subst e
   rw [qc0] at hbb;cases hbb;exact .dead (qa6 _ _ _)
  ·rw [qc1 _ _ e] at hbb
   exact (hH.blk i bb hbb).mono hle (qa7 _ _ e) (fun _ h => h) (fun _ _ => rfl) (fun _ _ _ _ => rfl)
 ·intro i hi
  by_cases e : i = b
  ·subst e; rw [qc0] at hi; cases hi
  ·rw [qc1 _ _ e] at hi; rw [qa7 _ _ e]; exact hH.none i hi
theorem qzA (hH : HRel J F w H) {b id : Id} {s g c : Nat} {es : List (List DV)} (hb : H b = some (.row s es)) (hJ : J b = .live (some g) true s c) (hid : H id = none) :
  HRel (qaA (qaA J b .dead) id (.live (some g) true s c)) F w (upd (upd H b (some .dead)) id (some (.row s es)))/\Ext J F w (qaA (qaA J b .dead) id (.live (some g) true s c)) F w := by
 have hne : id ≠ b := fun e => by rw [e, hb] at hid; cases hid
 have hJid : J id = .none := hH.none id hid
 have hle : ∀ i, (J i).le (qaA (qaA J b .dead) id (.live (some g) true s c) i) := by
  intro i;by_cases e : i = id
  ·subst e; rw [hJid]; exact trivial
  ·rw [qa7 _ _ e]
   by_cases e' : i = b
   ·subst e'; rw [qa6, hJ]; exact trivial
   ·rw [qa7 _ _ e']; exact JI.le_refl _
 have hlive : ∀ {i g' o s' c'}, qaA (qaA J b .dead) id (.live (some g) true s c) i = .live g' o s' c'->(i = id/\g' = some g/\o = true/\s' = s/\c' = c)\/(i ≠ id/\i ≠ b/\J i = .live g' o s' c') := by
  intro i g' o s' c' h;by_cases e : i = id
  ·subst e; rw [qa6] at h; cases h; exact .inl ⟨rfl, rfl, rfl, rfl, rfl⟩
  ·rw [qa7 _ _ e] at h
   by_cases e' : i = b
   ·subst e'; rw [qa6] at h; cases h
   ·rw [qa7 _ _ e'] at h; exact .inr ⟨e, e', h⟩
 have hown : ∀ g', Own (qaA (qaA J b .dead) id (.live (some g) true s c)) g'->Own J g' := by
  rintro g' ⟨i, s', c', h⟩;rcases hlive h with ⟨_, h1, _⟩ | ⟨_, _, h1⟩
  ·cases h1; exact ⟨b, s, c, hJ⟩
  ·exact ⟨i, s', c', h1⟩
 refine ⟨⟨?_, ?_, ?_, fun g' hg => hH.own g' (hown g' hg), ?_, hH.fsz, hH.tab⟩, ⟨hle, fun _ h => h, fun _ h => .inl h, fun g' hg => .inl (hown g' hg), fun _ _ _ => rfl, Nat.le_refl _, rfl, rfl, rfl⟩⟩
 ·intro i bb hbb
  by_cases e : i = id
  ·subst e
   rw [qc0] at hbb;cases hbb;cases hH.blk _ _ hb with
   | row _ _ g' c' cur ty hJ' hg hs hn hm hel hc h1 =>
    rw [hJ] at hJ'; cases hJ';exact .row s es g c cur ty (qa6 _ _ _) hg hs hn hm hel (fun i j x d v h2 h3 h4 => hc i j x d v h2 h3 h4) h1
   | rowNil _ _ hJ' => rw [hJ] at hJ'; cases hJ'
  ·rw [qc1 _ _ e] at hbb
   by_cases e' : i = b
   ·subst e'
    rw [qc0] at hbb;cases hbb;exact .dead (by rw [qa7 _ _ e, qa6])
   ·rw [qc1 _ _ e'] at hbb
    exact (hH.blk i bb hbb).mono hle (by rw [qa7 _ _ e, qa7 _ _ e']) (fun _ h => h) (fun _ _ => rfl) (fun _ _ _ _ => rfl)
 ·intro i hi
  by_cases e : i = id
  ·subst e; rw [qc0] at hi; cases hi
  ·rw [qc1 _ _ e] at hi
   by_cases e' : i = b
   ·subst e'; rw [qc0] at hi; cases hi
   ·rw [qc1 _ _ e'] at hi; rw [qa7 _ _ e, qa7 _ _ e']; exact hH.none i hi
 ·intro i i' g' o1 s1 c1 o2 s2 c2 h1 h2
  rcases hlive h1 with ⟨e1, q1, _⟩ | ⟨e1, f1, q1⟩
  ·rcases hlive h2 with ⟨e2, q2, _⟩ | ⟨e2, f2, q2⟩
   ·rw [e1, e2]
   ·cases q1
    exact absurd (hH.inj _ _ _ _ _ _ _ _ _ q2 hJ) f2
  ·rcases hlive h2 with ⟨e2, q2, _⟩ | ⟨e2, f2, q2⟩
   ·cases q2
    exact absurd (hH.inj _ _ _ _ _ _ _ _ _ q1 hJ) f1
   ·exact hH.inj _ _ _ _ _ _ _ _ _ q1 q2
 ·intro i g' o s' c' h
  rcases hlive h with ⟨_, h1, _⟩ | ⟨_, _, h1⟩
  ·cases h1; exact hH.live _ _ _ _ _ hJ
  ·exact hH.live _ _ _ _ _ h1
theorem Grid.append {s : Nat} {es ys : List (List DV)} {os ns : List Value} (ho : Grid F w s es os) (hl : os.length = es.length * s) (hn : Grid F w s ys ns) (hm : ns.length = ys.length * s) : Grid F w s (es ++ ys) (os ++ ns)/\(os ++ ns).length = (es ++ ys).length * s := by
 refine ⟨⟨by simp [hl, hm, Nat.add_mul], ?_, ?_, ?_⟩, by simp [hl, hm, Nat.add_mul]⟩
 ·intro x hx
  rcases List.mem_append.1 hx with h | h
  ·exact ho.el x h
  ·exact hn.el x h
 ·intro i j x d v hx hd hv
  by_cases hi : i < es.length
  ·rw [List.getElem?_append_left hi] at hx
   have hj : j < s := by have := (List.getElem?_eq_some_iff.1 hd).1; rwa [ho.el x (List.mem_of_getElem? hx)] at this
   have : (i + 1) * s<=es.length * s := Nat.mul_le_mul_right _ hi;rw [Nat.succ_mul] at this;rw [List.getElem?_append_left (by omega)] at hv;exact ho.rep i j x d v hx hd hv
  ·rw [List.getElem?_append_right (by omega)] at hx
   have : es.length * s<=i * s := Nat.mul_le_mul_right _ (by omega);rw [List.getElem?_append_right (by omega)] at hv;refine hn.rep (i - es.length) j x d v hx hd ?_
   rw [← hv, hl, Nat.sub_mul]
   congr 1
   omega
 ·intro j v hv
  by_cases hj : j < os.length
  ·rw [List.getElem?_append_left hj] at hv; exact ho.one j v hv
  ·rw [List.getElem?_append_right (by omega)] at hv; exact hn.one _ v hv
theorem Grid.more {s : Nat} {es : List (List DV)} {os zs : List Value} (ho : Grid F w s es os) (hl : os.length = es.length * s) (hz : ∀ (j : Nat) v, zs[j]? = some v->v.oneCell' = true) : Grid F w s es (os ++ zs) := by
 refine ⟨by simp [hl], ho.el, ?_, ?_⟩
 ·intro i j x d v hx hd hv
  have hi := (List.getElem?_eq_some_iff.1 hx).1;have hj : j < s := by have := (List.getElem?_eq_some_iff.1 hd).1; rwa [ho.el x (List.mem_of_getElem? hx)] at this
  have : (i + 1) * s<=es.length * s := Nat.mul_le_mul_right _ hi;rw [Nat.succ_mul] at this;rw [List.getElem?_append_left (by omega)] at hv;exact ho.rep i j x d v hx hd hv
 ·intro j v hv
  by_cases hj : j < os.length
  ·rw [List.getElem?_append_left hj] at hv; exact ho.one j v hv
  ·rw [List.getElem?_append_right (by omega)] at hv; exact hz _ v hv
theorem Grid.world {s : Nat} {es : List (List DV)} {os : List Value} {w' : World} (ho : Grid F w s es os) (h : ∀ d v, Rep F w d v->Rep F w' d v) : Grid F w' s es os :=
 ⟨ho.len, ho.el, fun i j x d v h1 h2 h3 => h d v (ho.rep i j x d v h1 h2 h3), ho.one⟩
theorem qh3 {z : Array Value} (h1 : ∀ (j : Nat) u, z.toList[j]? = some u->u.oneCell' = true) (n : Nat) : ∀ (j : Nat) v, (Builtin.zeroCells z n).toList[j]? = some v->v.oneCell' = true := by
 intro j v hv;have hlt : j < n * z.size := by have := (List.getElem?_eq_some_iff.1 hv).1; simpa [Builtin.zeroCells] using this
 simp only [Builtin.zeroCells, Array.toList_map, Array.toList_range, List.getElem?_map, List.getElem?_range hlt, Option.map_some, Option.some.injEq] at hv;subst hv
 have hz : 0 < z.size := by
              rcases Nat.eq_zero_or_pos z.size with h | h
              ·rw [h] at hlt; simp at hlt
              ·exact h
 have hm : j % z.size < z.size := Nat.mod_lt _ hz;have := h1 (j % z.size) z[j % z.size] (by simp [hm]);simpa [getElem!_pos, hm] using this
theorem qzB (hH : HRel J F w H) {id : Id} (hid : H id = none) {e : TypeId} {s c : Nat} {z : Array Value} (hz1 : ∀ (j : Nat) u, z.toList[j]? = some u->u.oneCell' = true) (hzs : z.size = s) {es : List (List DV)} {os : List Value}
  (ho : Grid F w s es os) (hl : os.length = es.length * s) (hm : es.length<=maxLen) :
  ∃ J', HRel J' F (w.drew.alloc (.cells (os.toArray ++ Builtin.zeroCells z (grownCap w es.length c e - es.length)) e)) (upd H id (some (.row s es)))/\Ext J F w J' F (w.drew.alloc (.cells (os.toArray ++ Builtin.zeroCells z (grownCap w es.length c e - es.length)) e)) ∧
   VRel J' F (w.drew.alloc (.cells (os.toArray ++ Builtin.zeroCells z (grownCap w es.length c e - es.length)) e)) (.row id s 0 es.length) (.slice (some ⟨w.heap.size, 0, none⟩) es.length (grownCap w es.length c e)) := by
 have hge := grownCap_ge w es.length c e;have hle := grownCap_le_maxLen w es.length c e hm;have hg : Grid F w.drew s es (os ++ (Builtin.zeroCells z (grownCap w es.length c e - es.length)).toList) := (ho.more hl (qh3 hz1 _)).world (fun d v h => h.mono (fun _ h => h) (fun _ _ => rfl))
 have hsz : (os.toArray ++ Builtin.zeroCells z (grownCap w es.length c e - es.length)).size = grownCap w es.length c e * s := by
  simp only [Array.size_append, List.size_toArray, size_zeroCells, hl, hzs, ← Nat.add_mul]
  congr 1
  omega
 obtain ⟨J', q1, q2, q3⟩ := qkO (e := e) (cur := os.toArray ++ Builtin.zeroCells z (grownCap w es.length c e - es.length)) (cap := grownCap w es.length c e) hH.drew hid (by simpa using hg) hsz hge hle;exact ⟨J', q1, (qh9 J F w).trans q2, q3⟩
theorem qbN (hH : HRel J F w H) {t u ty e : TypeId} {i : TypeInfo} {zv : Value} {z : List DV} {du : TypeDesc} (ht : P.underlying t = some (.slice e)) (hi : P.info? e = some i) (hzv : i.zero = some zv) (hz : qr2 P e = some z) (hzl : z.length = i.size)
  (hu : P.underlying u = some du) (hdu : (∃ e', du = .slice e')\/du = .string) {id : Id} (hid : H id = none) {x : AV} {v y : Value} (hv : VRel J F w x v) {ys : List (List DV)} {news : List Value} (hs : Src P F w i.size ys y news) {r : AV} {H' : Hp}
  (h : qr3 H id i.size i.bytes ys x = some (r, H')) :
  ∃ v' w' J', (Builtin.append_ #[t, u] ty #[v, y]).run P w = .ok v' w'/\VRel J' F w' r v'/\HRel J' F w' H'/\Ext J F w J' F w' := by
 have hz1 : ∀ (j : Nat) q, zv.cells.toList[j]? = some q->q.oneCell' = true := by
  unfold qr2 at hz;rw [hi] at hz;simp only [hzv] at hz;exact qt1 hz
 have hzs : zv.cells.size = i.size := by
  unfold qr2 at hz;rw [hi] at hz;simp only [hzv] at hz;have := qu6 hz;simp only [Array.length_toList] at this;omega
 -- a slice without room of which nothing is kept
 have fromNil : ∀ {J1 : Id->JI} {H1 : Hp}, HRel J1 F w H1->Ext J F w J1 F w->H1 id = none->∀ p, ys.length * i.bytes<=140737488355328->ys.length<=maxLen →
   ∃ v' w' J', (Builtin.append_ #[t, u] ty #[.slice p 0 0, y]).run P w = .ok v' w'/\VRel J' F w' (.row id i.size 0 ys.length) v'/\HRel J' F w' (upd H1 id (some (.row i.size ys)))/\Ext J F w J' F w' := by
  intro J1 H1 hH1 he1 hid1 p hb hm;by_cases h0 : ys.length = 0
  ·have hys : ys = [] := List.eq_nil_of_length_eq_zero h0
   subst hys
   have hnews : news = [] := by
    have := hs.src.2;simp at this;exact this
   obtain ⟨q1, q2⟩ := qgR hH1 id hid1 i.size 0;have hrun := qeA (P := P) (w := w) (ty := ty) (p := p) (n := 0) (c := 0) ht hi hu hdu hs.src (by simp) (w' := w) (fun b _ => by rw [hnews]; rfl) (fun _ => rfl);exact ⟨_, _, _, hrun, .rowNil id true i.size 0 p (qa6 _ _ _), q1, he1.trans q2⟩
  ·obtain ⟨J', q1, q2, q3⟩ := qzB (e := e) (c := 0) hH1 hid1 hz1 hzs hs.grid hs.src.2 hm
   have hfc : ∀ w', w'.heap = w.heap->(Builtin.firstCells i.size 0 (.slice p 0 0)).run P w' = .ok ([] : List Value).toArray w' := by
    intro w' _;cases p with
    | none => simp [Builtin.firstCells]
    | some b => simp [Builtin.firstCells, loadCells, loadCellsFrom]
   have hrun := qkQ (P := P) (w := w) (ty := ty) (p := p) (n := 0) (c := 0) (olds := []) ht hi hzv hu hdu hs.src hfc (by omega) (by unfold maxLen at hm; omega) (by rw [Nat.zero_add]; exact hb);simp only [Nat.zero_add, List.nil_append] at hrun;exact ⟨_, _, J', hrun, q3, q1, he1.trans q2⟩
 cases x <;> simp only [qr3, reduceCtorEq] at h
 case val d =>
  cases d <;> simp only [reduceCtorEq] at h
  split at h
  ·rename_i hb
   cases h;have hv := hv.inv_val;cases hv;exact fromNil hH (Ext.refl _ _ _) hid _ hb.1 hb.2
  ·cases h
 case row b s' o n =>
  split at h
  ·rename_i s'' es hb
   split at h
   ·rename_i hc
    obtain ⟨rfl, rfl, rfl, hn, hby, hml⟩ := hc;cases h;have hne : id ≠ b := fun e => by rw [e, hb] at hid; cases hid
    cases hv with
    | row _ _ _ g own _ cap hJ hc' =>
     cases hH.blk _ _ hb with
     | row _ _ g' c' cur ty' hJ' hg hsz hn' hm hel hc h1 =>
      rw [hJ] at hJ'; cases hJ';rw [Nat.zero_mul, Nat.sub_zero]
      have hcurg : ∀ k, k < n * i.size->cur[k]? = some (cur.getD k undef) := by
       intro k hk;have : n * i.size<=cap * i.size := Nat.mul_le_mul_right _ (by omega);have hlt : k < cur.size := by omega
       simp [Array.getD, hlt]
      by_cases hroom : n + ys.length<=cap
      ·-- in its room
       have hfit : n * i.size + news.length<=cur.size := by
        rw [hs.src.2, hsz, ← Nat.add_mul];exact Nat.mul_le_mul_right _ hroom
       have hst := run_storeCells_at P g (n * i.size) ty' news 0 cur w hg (by simpa using hfit) (qw8 hs.grid.one);simp only [Nat.add_zero] at hst
       have hrun := qeA (P := P) (w := w) (ty := ty) (p := some ⟨g, 0, none⟩) (n := n) (c := cap) ht hi hu hdu hs.src hroom (w' := w.setRow g (splice cur.toList (n * i.size) news).toArray) (fun b hb => by
        cases hb;rw [Addr.add_mid, Nat.zero_add];exact hst) (fun h => by cases h)
       obtain ⟨r1, r2⟩ := qzA hH hb hJ hid
       obtain ⟨q1, q2⟩ := qgS (b := id) r1 (qa6 _ _ _) (cur' := (splice cur.toList (n * i.size) news).toArray) hg (.row i.size (es.take n ++ ys)) (by
        intro hV hR hg';have hfit' : n * i.size + news.length<=cur.toList.length := by simpa using hfit
        have htl : (es.take n).length = n := by rw [List.length_take]; omega
        refine .row i.size _ g cap _ ty' (qa6 _ _ _) hg' ?_ (by rw [List.length_append, htl]; exact hroom) hm ?_ ?_ ?_
        ·rw [List.size_toArray, qc8 _ _ _ hfit']; simpa using hsz
        ·intro x hx
         rcases List.mem_append.1 hx with h | h
         ·exact hel x (List.mem_of_mem_take h)
         ·exact hs.grid.el x h
        ·intro k j x d q h2 h3 h4
         have h4 : (splice cur.toList (n * i.size) news)[k * i.size + j]? = some q := by simpa using h4
         rw [qe5 _ _ _ hfit'] at h4;by_cases hk : k < n
         ·rw [List.getElem?_append_left (by omega), List.getElem?_take, if_pos hk] at h2
          have hj : j < i.size := by have := (List.getElem?_eq_some_iff.1 h3).1; rwa [hel x (List.mem_of_getElem? h2)] at this
          have : (k + 1) * i.size<=n * i.size := Nat.mul_le_mul_right _ hk;rw [Nat.succ_mul] at this;rw [if_pos (by omega)] at h4;exact hR d q (hc k j x d q h2 h3 (by simpa using h4))
         ·rw [List.getElem?_append_right (by omega), htl] at h2
          have hj : j < i.size := by have := (List.getElem?_eq_some_iff.1 h3).1; rwa [hs.grid.el x (List.mem_of_getElem? h2)] at this
          have hkl := (List.getElem?_eq_some_iff.1 h2).1;have h6 : n * i.size<=k * i.size := Nat.mul_le_mul_right _ (by omega);have h7 : (k - n + 1) * i.size<=ys.length * i.size := Nat.mul_le_mul_right _ hkl;rw [Nat.succ_mul, Nat.sub_mul] at h7;have := hs.src.2;rw [if_neg (by omega), if_pos (by omega)] at h4;refine hR d q (hs.grid.rep (k - n) j x d q h2 h3 ?_);rw [← h4, Nat.sub_mul]
          congr 1
          omega
        ·intro j q h2
         have h2 : (splice cur.toList (n * i.size) news)[j]? = some q := by simpa using h2
         rw [qe5 _ _ _ hfit'] at h2;split at h2
         ·exact h1 j q (by simpa using h2)
         ·split at h2
          ·exact hs.grid.one _ q h2
          ·exact h1 j q (by simpa using h2))
       refine ⟨_, _, _, hrun, ?_, ?_, r2.trans q2⟩
       ·have := VRel.row (J := qaA (qaA J b .dead) id (.live (some g) true i.size cap)) (F := F) (w := w.setRow g (splice cur.toList (n * i.size) news).toArray) id 0 (n + ys.length) g true i.size cap (qa6 _ _ _) (by omega)
        rwa [Nat.zero_mul, Nat.sub_zero] at this
       ·have e1 : upd (upd (upd H b (some .dead)) id (some (.row i.size es))) id (some (.row i.size (es.take n ++ ys))) = upd (upd H b (some .dead)) id (some (.row i.size (es.take n ++ ys))) := by
         funext k
         simp only [upd];split <;> rfl
        rw [e1] at q1;exact q1
      ·-- anew
       have hog : Grid F w i.size (es.take n) ((List.range (n * i.size)).map fun k => cur.getD k undef)/\((List.range (n * i.size)).map fun k => cur.getD k undef).length = (es.take n).length * i.size := by
        have htl : (es.take n).length = n := by rw [List.length_take]; omega
        refine ⟨⟨by simp [htl], fun x hx => hel x (List.mem_of_mem_take hx), ?_, ?_⟩, by simp [htl]⟩
        ·intro k j x d q h2 h3 h4
         obtain ⟨hj, rfl⟩ := qh2 h4;rw [List.getElem?_take] at h2;split at h2
         ·exact hc k j x d _ h2 h3 (hcurg _ hj)
         ·cases h2
        ·intro j q h2
         obtain ⟨hj, rfl⟩ := qh2 h2;exact h1 j _ (hcurg _ hj)
       have htl : (es.take n ++ ys).length = n + ys.length := by rw [List.length_append, List.length_take]; omega
       obtain ⟨hg2, hl2⟩ := hog.1.append hog.2 hs.grid hs.src.2;obtain ⟨k1, k2⟩ := kill hH b hb;obtain ⟨J', q1, q2, q3⟩ := qzB (e := e) (c := cap) (id := id) k1 (by rw [qc1 _ _ hne]; exact hid) hz1 hzs hg2 hl2 (by rw [htl]; exact hml)
       have hfc : ∀ w', w'.heap = w.heap->(Builtin.firstCells i.size n (.slice (some ⟨g, 0, none⟩) n cap)).run P w' = .ok ((List.range (n * i.size)).map fun k => cur.getD k undef).toArray w' := by
        intro w' hw';refine run_firstCells_some (P := P) w' i.size n ⟨g, 0, none⟩ n cap _ (by simp) ?_
        intro j q hq;obtain ⟨hj, rfl⟩ := qh2 hq;have e : w'.cell? ⟨g, 0 + j, none⟩ = w.cell? ⟨g, 0 + j, none⟩ := World.cell?_of_block (by rw [hw'])
        rw [Addr.add_mid, e, qc4 hg, Nat.zero_add];exact hcurg j hj
       have hrun := qkQ (P := P) (w := w) (ty := ty) (p := some ⟨g, 0, none⟩) (n := n) (c := cap) ht hi hzv hu hdu hs.src hfc hroom (by unfold maxLen at hml; omega) hby;rw [htl] at q1 q2 q3;exact ⟨_, _, J', hrun, q3, q1, k2.trans q2⟩
     | rowNil _ _ hJ' => rw [hJ] at hJ'; cases hJ'
    | rowNil _ own _ cap p hJ =>
     have hes : es = [] := by
      cases hH.blk _ _ hb with
      | row _ _ g' c' cur ty' hJ' => rw [hJ] at hJ'; cases hJ'
      | rowNil _ _ hJ' => rfl
     subst hes;obtain ⟨k1, k2⟩ := kill hH b hb;have := fromNil k1 k2 (by rw [qc1 _ _ hne]; exact hid) p (by simpa using hby) (by simpa using hml);simpa using this
    | rowEnd _ _ _ _ _ _ _ ho => exact absurd rfl ho
    | rowDead _ _ _ _ p c hJ => 
     exfalso;cases hH.blk _ _ hb with
     | row _ _ g' c' cur ty' hJ' => rw [hJ] at hJ'; cases hJ'
     | rowNil _ _ hJ' => rw [hJ] at hJ'; cases hJ'
   ·cases h
  ·cases h
end
def zf4 (P : Program) (o : Oper) : Option ROp :=
 match o.op with
 | .load t x => match qo5 x, P.underlying t with
  | some x', some _ => some (.load (P.cellsOf t) (qg1 P t) x')
  | _, _ => none
 | .convert src dst x => match qo5 x, P.underlying src, P.underlying dst with
  | some x', some (.slice e), some .string => (match P.underlying e with | some (.int .u8) => some (.b2s x') | _ => none)
  | some x', some .string, some (.slice e) => (match P.underlying e with | some (.int .u8) => some (.s2b x') | _ => none)
  | _, _, _ => none
 | .slice t x lo hi none => match qo5 x, qiT lo, qiT hi, P.underlying t with
  | some x', some lo', some hi', some (.array n e) => if P.cellsOf e = 1 then (match P.info? e with | some _ => some (.sla n x' lo' hi') | none => none) else none
  | _, _, _, _ => none
 | .call c => match c.callee, qnM c.args.toList with
  | .value (.func f), some l => some (.call f l)
  | .value (.tmp t), some l => some (.callv (.t t) l)
  | _, _ => none
 | _ => none
section
variable {P : Program} {J : Id->JI} {F : Nat->Prop} {w : World} {H : Hp} {ρ : Opd->AV} {a : Act} {C : FuncId->Con}
theorem qoB {o : Oper} {f : FuncId} {args : Array Value} {x : AV} {H' : Hp} (hr : (execOp a.eval o).run P w = .ok (.enter f args) w)
  (h : Calls P f args w fun e w' => ∃ v J' F', e = .returned v/\VRel J' F' w' x v/\HRel J' F' w' H'/\Ext J F w J' F' w') : zf3 P J F w a o x H' := by
 intro Q;unfold Oper.wp;rw [hr, Oper.upon_enter];refine h.mono ?_
 rintro e w' ⟨v, J', F', rfl, h1, h2, h3⟩;exact ⟨v, J', F', rfl, h1, h2, h3⟩
theorem qo7 {f : FuncId} (h : qv6 P f) (args : Array Value) : (callFunc f args).run P w = .ok (.enter f args) w := by
 obtain ⟨fn, h1, h2, h3⟩ := h;unfold callFunc;simp only [Sem.run_bind, run_program, Result.andThen_ok, h1, h2, h3, Bool.false_eq_true, if_false, Sem.run_pure]
theorem qwJ {x : AV} {v : Value} {s : Nat} {ys : List (List DV)} (hv : VRel J F w x v) (h : elems H s x = some ys) : ∃ p c, v = .slice p ys.length c := by
 unfold elems at h;split at h
 ·split at h
  ·cases h
   cases hv.inv_val with
   | sl0 => exact ⟨_, _, rfl⟩
   | sl => exact ⟨_, _, rfl⟩
  ·cases h
 ·cases h
  cases hv.inv_val;exact ⟨_, _, rfl⟩
 ·rename_i id s' o n
  have key : ∀ {es : List (List DV)}, o + n<=es.length->((es.drop o).take n).length = n := by
   intro es h;rw [List.length_take, List.length_drop];omega
  have hn : ys.length = n := by
   split at h
   ·split at h
    ·split at h
     ·rename_i hc
      cases h;exact key hc.2
     ·cases h
    ·split at h
     ·rename_i hc
      cases h;exact key hc.2
     ·cases h
    ·cases h
   ·cases h
  rw [hn];cases hv <;> exact ⟨_, _, rfl⟩
 ·cases h
theorem qkR : ∀ {ys : List (List DV)} {l : List UInt8} {news : List Value}, qdL ys = some l->Grid F w 1 ys news->news.length = ys.length->∃ ns : List Int, news = ns.map (Value.int .u8)/\ns.map (fun n => UInt8.ofNat n.toNat) = l
 | [], l, news, h, _, hn => by
  simp only [qdL, Option.some.injEq] at h;subst h;have : news = [] := List.eq_nil_of_length_eq_zero (by simpa using hn);subst this;exact ⟨[], rfl, rfl⟩
 | y :: ys, l, [], _, _, hn => by simp at hn
 | y :: ys, l, v :: news, h, hg, hn => by
  unfold qdL at h;split at h
  ·cases ‹_ = []›
  ·rename_i n l' he
   cases he;simp only [Option.map_eq_some_iff] at h;obtain ⟨l0, h, rfl⟩ := h;have h0 := hg.rep 0 0 _ (.int .u8 n) v rfl rfl (by simp);cases h0
   have hg' : Grid F w 1 ys news := by
    refine ⟨by have := hg.len; simp at this ⊢; omega, fun x hx => hg.el x (List.mem_cons_of_mem _ hx), fun i j x d u h1 h2 h3 => ?_, fun j u hu => hg.one (j + 1) u (by simpa using hu)⟩;refine hg.rep (i + 1) j x d u (by simpa using h1) h2 ?_
    rw [show (i + 1) * 1 + j = (i * 1 + j) + 1 by omega];simpa using h3
   obtain ⟨ns, rfl, rfl⟩ := qkR h hg' (by simpa using hn);exact ⟨n :: ns, rfl, rfl⟩
  ·cases h
theorem qkS : ∀ (ns : List Int) (r : ByteArray), ns.foldl (fun r n => r.push (UInt8.ofNat n.toNat)) r = ⟨r.data ++ (ns.map (fun n => UInt8.ofNat n.toNat)).toArray⟩
 | [], r => by simp
 | n :: l, r => by
  simp only [List.foldl_cons, List.map_cons];rw [qkS l];simp [ByteArray.push]
theorem zm7 (hH : HRel J F w H) {src dst e : TypeId} (hs : P.underlying src = some (.slice e)) (he : P.underlying e = some (.int .u8)) (hd : P.underlying dst = some .string) {x : AV} {v : Value} (hv : VRel J F w x v)
  {l : List UInt8} (h : (elems H 1 x).bind qdL = some l) : (convert src dst v).run P w = .ok (.string ⟨l.toArray⟩) w := by
 simp only [Option.bind_eq_some_iff] at h;obtain ⟨ys, h, hb⟩ := h;obtain ⟨news, hsrc⟩ := qfJ (P := P) hH hv h;obtain ⟨p, c, rfl⟩ := qwJ hv h;obtain ⟨ns, hns, hl⟩ := qkR hb hsrc.grid (by simpa using hsrc.src.2);rw [run_convert_bytes_string w src dst e p ys.length c hs he hd];have hf := (hsrc.src.1 w rfl).2;cases p with
 | none =>
  simp only [Builtin.firstCells, Sem.run_pure, Result.ok.injEq, and_true] at hf
  have h0 : news = [] := by
   have := congrArg Array.toList hf;simpa using this.symm
  rw [h0] at hns;have : ns = [] := by simpa using hns.symm
  subst this;subst hl;rfl
 | some a =>
  simp only [Builtin.firstCells, Nat.mul_one] at hf;rw [hns] at hf;rw [run_bytesToString w a _ c ns hf, qkS, hl];simp
theorem zm8 (hH : HRel J F w H) {src dst e : TypeId} (hs : P.underlying src = some .string) (hd : P.underlying dst = some (.slice e)) (he : P.underlying e = some (.int .u8)) (b : ByteArray) :
  ∃ v w' F', (convert src dst (.string b)).run P w = .ok v w'/\VRel J F' w' (.val (.sl 1 (qm7 b))) v/\HRel J F' w' H/\Ext J F w J F' w' := by
 have hrun := run_bytes_of_string (P := P) w src dst e b hs hd he;generalize hcap : grownCap w b.size 0 e = cap at hrun;have hc : b.size<=cap := hcap ▸ grownCap_ge w b.size 0 e;generalize hfr : ((bytesRow b cap).size, (bytesRow b cap).size + 1) = fr at hrun;have hgr : Grown w (w.drew.alloc (.cells (bytesRow b cap) e fr)) := ⟨fun g hg => by rw [heap_alloc]; rfl; exact hg, by simp, rfl, rfl, rfl⟩;obtain ⟨h1, h2⟩ := qbM (F' := fun g => g = w.heap.size) hH hgr (fun g hg => .inr (by omega)) (fun g hg => by subst hg; simp);refine ⟨_, _, _, hrun, .val _ _ ?_, h1, h2⟩;have hlen : (qm7 b).length = b.size := by simp only [qm7, List.length_map, Array.length_toList]; rfl
 have hget : ∀ (i : Nat) e', (qm7 b)[i]? = some e'->∃ hi : i < b.data.size, e' = [.int .u8 b.data[i].toNat] := by
  intro i e' h3;simp only [qm7, List.getElem?_map, Option.map_eq_some_iff] at h3;obtain ⟨x, h3, rfl⟩ := h3;have h3 : b.data[i]? = some x := by simpa using h3
  obtain ⟨hi, h3⟩ := Array.getElem?_eq_some_iff.1 h3
  exact ⟨hi, by rw [h3]⟩
 rw [← hlen];refine .sl 1 (qm7 b) w.heap.size 0 cap (fun i j => .int .u8 (b.data.getD i 0).toNat) ?_ (by rw [hlen]; exact hc) ?_ (.inr rfl) ?_ ?_
 ·intro x hx
  simp only [qm7, List.mem_map] at hx;obtain ⟨y, _, rfl⟩ := hx;rfl
 ·intro x hx d hd
  simp only [qm7, List.mem_map] at hx;obtain ⟨y, _, rfl⟩ := hx;simp only [List.mem_singleton] at hd;subst hd;rfl
 ·intro i j x d h3 h4
  obtain ⟨hi, rfl⟩ := hget i x h3;have hj : j = 0 := by have := (List.getElem?_eq_some_iff.1 h4).1; simpa using this
  subst hj;have hnew : (w.drew.alloc (.cells (bytesRow b cap) e fr)).heap[w.heap.size]? = some (.cells (bytesRow b cap) e fr) := heap_alloc_new w.drew _;rw [qc4 hnew]
  have : (bytesRow b cap)[i]? = some (.int .u8 b.data[i].toNat) := by
   unfold bytesRow;rw [Array.getElem?_append_left (by simpa using hi)];rw [Array.getElem?_map, Array.getElem?_eq_getElem hi];rfl
  simp only [Nat.zero_add, Nat.mul_one, Nat.add_zero];rw [this];simp only [Array.getD, hi, dif_pos];rfl
 ·intro i j x d h3 h4
  obtain ⟨hi, rfl⟩ := hget i x h3;have hj : j = 0 := by have := (List.getElem?_eq_some_iff.1 h4).1; simpa using this
  subst hj;simp only [List.getElem?_cons_zero, Option.some.injEq] at h4;subst h4;simp only [Array.getD, hi];exact .int _ _
theorem zm9 (hH : HRel J F w H) {id : Id} (hid : H id = none) {w' : World} (hg : Grown w w') {v : Value} {s : Nat} {es : List (List DV)} (h : (es = []/\∃ p, v = .slice p 0 0)\/∃ g cap cur e', v = .slice (some ⟨g, 0, none⟩) es.length cap/\w.heap.size<=g/\w'.heap[g]? = some (.cells cur e' (0, 0)) ∧
   cur.size = cap * s/\es.length<=cap/\cap<=maxLen/\(∀ x ∈ es, x.length = s)/\(∀ (i j : Nat) x d v, es[i]? = some x->x[j]? = some d->cur[i * s + j]? = some v->Rep F w' d v)/\∀ (j : Nat) v, cur[j]? = some v->v.oneCell' = true) :
  ∃ J' F', VRel J' F' w' (.row id s 0 es.length) v/\HRel J' F' w' (upd H id (some (.row s es)))/\Ext J F w J' F' w' := by
 obtain ⟨h1, h2⟩ := qbM (F' := fun _ => False) hH hg (by simp) (by simp);have hF : (fun g => F g\/False) = F := by funext g; simp
 rw [hF] at h1 h2;rcases h with ⟨rfl, p, rfl⟩ | ⟨g, cap, cur, e', rfl, hgs, hcur, hsz, hn, hm, hel, hrep, hone⟩
 ·obtain ⟨h3, h4⟩ := qgR h1 id hid s 0
  exact ⟨_, F, .rowNil id true s 0 p (qa6 _ _ _), h3, h2.trans h4⟩
 ·have hJn : J id = .none := hH.none id hid
  have hle : ∀ i, (J i).le (qaA J id (.live (some g) true s cap) i) := by
   intro i;by_cases e : i = id
   ·subst e; rw [hJn]; exact trivial
   ·rw [qa7 _ _ e]; exact JI.le_refl _
  have hgl : g < w'.heap.size := by
   rcases Nat.lt_or_ge g w'.heap.size with h | h
   ·exact h
   ·rw [Array.getElem?_eq_none h] at hcur; cases hcur
  refine ⟨qaA J id (.live (some g) true s cap), F, ?_, ⟨?_, ?_, ?_, ?_, ?_, h1.fsz, h1.tab⟩, ⟨hle, fun _ h => h, fun _ h => .inl h, ?_, h2.heap, h2.size, h2.os, h2.tape, h2.output⟩⟩
  ·have := VRel.row (J := qaA J id (.live (some g) true s cap)) (F := F) (w := w') id 0 es.length g true s cap (qa6 _ _ _) (by omega)
   simpa using this
  ·intro i bb hbb
   by_cases e : i = id
   ·subst e
    rw [qc0] at hbb;cases hbb;exact .row s es g cap cur e' (qa6 _ _ _) hcur hsz hn hm hel hrep hone
   ·rw [qc1 _ _ e] at hbb
    exact (h1.blk i bb hbb).mono hle (qa7 _ _ e) (fun _ h => h) (fun _ _ => rfl) (fun _ _ _ _ => rfl)
  ·intro i hi
   by_cases e : i = id
   ·subst e; rw [qc0] at hi; cases hi
   ·rw [qc1 _ _ e] at hi; rw [qa7 _ _ e]; exact hH.none i hi
  ·intro i i' k o1 s1 c1 o2 s2 c2 q1 q2
   by_cases e : i = id
   ·by_cases e' : i' = id
    ·rw [e, e']
    ·subst e
     rw [qa6] at q1;rw [qa7 _ _ e'] at q2;cases q1;have := hH.live _ _ _ _ _ q2;omega
   ·by_cases e' : i' = id
    ·subst e'
     rw [qa6] at q2;rw [qa7 _ _ e] at q1;cases q2;have := hH.live _ _ _ _ _ q1;omega
    ·rw [qa7 _ _ e] at q1
     rw [qa7 _ _ e'] at q2;exact hH.inj _ _ _ _ _ _ _ _ _ q1 q2
  ·intro k hk
   rcases qkJ hk with q | ⟨s', c', q⟩
   ·exact hH.own k q
   ·cases q
    intro hFk;have := hH.fsz _ hFk;omega
  ·intro i k o1 s1 c1 q1
   by_cases e : i = id
   ·subst e; rw [qa6] at q1; cases q1; exact hgl
   ·rw [qa7 _ _ e] at q1; exact h1.live _ _ _ _ _ q1
  ·intro k hk
   rcases qkJ hk with q | ⟨s', c', q⟩
   ·exact .inl q
   ·cases q; exact .inr hgs
theorem qbO {ids : List Id} {H' : Hp} (h : fix H ids = some H') {id : Id} (hid : ids.contains id = false) : H' id = H id := by
 cases ids with
 | nil => simp only [fix, Option.some.injEq] at h; rw [h]
 | cons i l =>
  simp only [fix] at h;split at h
  ·simp only [Option.some.injEq] at h
   rw [← h];simp only [hid, Bool.false_eq_true, if_false]
  ·cases h
theorem qcO (hC : qr4 P C) (hH : HRel J F w H) {id : Id} {f : FuncId} {avs : List AV} {vs : List Value} (hv : vs.length = avs.length/\∀ (j : Nat) y v, avs[j]? = some y->vs[j]? = some v->VRel J F w y v)
  {x : AV} {H' : Hp} (h : qt8 C H id f avs = some (x, H')) : qv6 P f/\Calls P f vs.toArray w fun e w' => ∃ v J' F', e = .returned v/\VRel J' F' w' x v/\HRel J' F' w' H'/\Ext J F w J' F' w' := by
 have hf := hC f;unfold qt8 at h;split at h
 ·rename_i spec hcf
  rw [hcf] at hf;split at h
  ·rename_i x' ids hcd
   simp only [Option.map_eq_some_iff, Prod.mk.injEq] at h;obtain ⟨H1, h, rfl, rfl⟩ := h;exact ⟨hf.1, qwH hH hf hv hcd h⟩
  ·cases h
 ·rename_i s spec hcf
  rw [hcf] at hf;split at h
  ·rename_i ds ids hd
   split at h
   ·rename_i es hes
    split at h
    ·cases h
    ·rename_i hno
     simp only [Option.map_eq_some_iff, Prod.mk.injEq] at h;obtain ⟨H1, hfix, rfl, rfl⟩ := h
     have hid : H id = none := by
      cases hh : H id with
      | none => rfl
      | some b => exact absurd (.inl (by simp [hh])) hno
     have hnc : ids.contains id = false := by
      cases hh : ids.contains id with
      | false => rfl
      | true => exact absurd (.inr hh) hno
     obtain ⟨hl, hrep⟩ := (qt0 hH 99).2 _ _ _ hd
     have hargs : qdZ (qdY J F ids) w ds vs := by
      refine ⟨by rw [hv.1, hl], fun j d v h1 h2 => ?_⟩;have hj : j < avs.length := by rw [← hl]; exact (List.getElem?_eq_some_iff.1 h1).1
      exact hrep j _ d v (List.getElem?_eq_getElem hj) h1 (hv.2 j _ v (List.getElem?_eq_getElem hj) h2)
     have hsz : ∀ g, qdY J F ids g->g < w.heap.size := by
      rintro g (hg | ⟨i, _, s, c, h1⟩)
      ·exact hH.fsz g hg
      ·exact hH.live _ _ _ _ _ h1
     refine ⟨hf.1, (hf.2 ds es hes (qdY J F ids) w vs hargs hsz (hH.tab.mono (fun g h => .inl h) (fun _ _ => rfl))).mono ?_⟩;rintro e w' ⟨v, he, hg, hrow⟩;obtain ⟨J1, F1, hH1, he1, hle⟩ := qbL hH hfix
     have hid1 : H1 id = none := by
      rw [qbO hfix (by split; rfl; exact hnc)];exact hid
     have hrep' : ∀ x ∈ es, ∀ d ∈ x, ∀ u, Rep (qdY J F ids) w' d u->Rep F1 w' d u := by
      intro x hx d hd u hu;by_cases hall : es.all (·.all DV.scalar) = true
      ·exact hu.scalar (List.all_eq_true.1 (List.all_eq_true.1 hall x hx) d hd)
      ·rw [if_neg hall] at hle
       exact hu.mono hle (fun _ _ => rfl)
     obtain ⟨J', F', q1, q2, q3⟩ := zm9 (id := id) (s := s) (es := es) hH1 hid1 hg (hrow.imp (fun h => h) (fun ⟨g, cap, cur, e', r1, r2, r3, r4, r5, r6, r7, r8, r9⟩ =>
      ⟨g, cap, cur, e', r1, r2, r3, r4, r5, r6, r7, fun i j x d u k1 k2 k3 => hrep' x (List.mem_of_getElem? k1) d (List.mem_of_getElem? k2) u (r8 i j x d u k1 k2 k3), r9⟩))
     exact ⟨v, J', F', he, q1, q2, he1.trans q3⟩
   ·cases h
  ·cases h
 ·rename_i spec hcf
  rw [hcf] at hf;exact ⟨hf.1, hf.2 id avs H x H' h J F w vs hH hv⟩
 ·cases h
theorem qjE (hr : qz7 J F w ρ a) {xs : Array Operand} {ys : List Opd} (hc : qnM xs.toList = some ys) : (xs.map a.eval).toList.length = (ys.map ρ).length/\∀ (j : Nat) y v, (ys.map ρ)[j]? = some y->(xs.map a.eval).toList[j]? = some v->VRel J F w y v := by
 obtain ⟨hl, h⟩ := qfC hr hc;refine ⟨by simp [hl], fun j y v h1 h2 => ?_⟩;simp only [List.getElem?_map, Option.map_eq_some_iff, Array.toList_map] at h1 h2;obtain ⟨y0, h1, rfl⟩ := h1;obtain ⟨x0, h2, rfl⟩ := h2;exact h j x0 y0 h2 h1
theorem qoC {as bs : List AV} {us vs : List Value} (h : us.length = as.length/\∀ (j : Nat) y v, as[j]? = some y->us[j]? = some v->VRel J F w y v) (h' : vs.length = bs.length/\∀ (j : Nat) y v, bs[j]? = some y->vs[j]? = some v->VRel J F w y v) :
  (us ++ vs).length = (as ++ bs).length/\∀ (j : Nat) y v, (as ++ bs)[j]? = some y->(us ++ vs)[j]? = some v->VRel J F w y v := by
 refine ⟨by simp [h.1, h'.1], fun j y v h1 h2 => ?_⟩;by_cases hj : j < as.length
 ·rw [List.getElem?_append_left hj] at h1
  rw [List.getElem?_append_left (by omega)] at h2;exact h.2 j y v h1 h2
 ·rw [List.getElem?_append_right (by omega)] at h1
  rw [List.getElem?_append_right (by omega), h.1] at h2;exact h'.2 _ y v h1 h2
theorem zn0 (hH : HRel J F w H) (hr : qz7 J F w ρ a) {o : Oper} {t e : TypeId} {x : Operand} {lo hi : Option Operand} {x' : Opd} {lo' hi' : Option Opd} {n : Nat} (ho : o.op = .slice t x lo hi none)
  (hx : qo5 x = some x') (h1 : qiT lo = some lo') (h2 : qiT hi = some hi') (ht : P.underlying t = some (.array n e)) {i : TypeInfo} (hi0 : P.info? e = some i) (hi1 : i.size = 1)
  {b : Id} {cells : List AV} (hb : ρ x' = .box b 0) (hB : H b = some (.box cells)) (hn : cells.length = n) {l h m : Nat} (hbo : qm6 n ρ lo' hi' none = some (l, h, m)) : qo6 P J F w a o (.row b 1 l (h - l)) := by
 have hv := hr.ev hx;rw [hb] at hv;obtain ⟨q1, q2, q3, hrun⟩ := qk6 (P := P) (w := w) (isSlice := false) (Nat.le_refl n) hr h1 h2 (show qiT none = some none from rfl) (by simp) hbo;simp only [Option.map_none, Option.isSome_none, Bool.false_eq_true, if_false] at hrun;cases hH.blk _ _ hB with
 | box _ g s cap cur ty hJ hg hs hc hc1 hk =>
  obtain ⟨rfl, hcap⟩ := hk;generalize hu : a.eval x = u at hv;cases hv with
  | box _ _ g' own' s' cap' hJ' =>
   rw [hJ] at hJ';cases hJ'
   have run : (execOp a.eval o).run P w = .ok (.value (.slice (some (if n = l then ⟨g, 0, none⟩ else Addr.add ⟨g, 0, none⟩ (l * 1))) (h - l) (n - l))) w := by
    unfold execOp;simp only [ho, hu, Instr.sliceAt, Instr.sureAddr, Sem.run_bind, run_underlying ht, Result.andThen_ok, Option.map_none, hrun, qd0 hi0, Sem.run_pure, hi1]
   have hcn : cap = n := by rw [hcap, hn]
   refine ⟨_, run, ?_⟩;by_cases hnl : n = l
   ·rw [if_pos hnl]
    have h0 : h - l = 0 := by omega
    have h00 : n - l = 0 := by omega
    rw [h0, h00];by_cases hl : l = 0
    ·subst hl
     have := VRel.row (F := F) (w := w) b 0 0 g true 1 cap hJ (by omega);rw [show cap - 0 = 0 by omega] at this;exact this
    ·exact .rowEnd b l g true 1 cap hJ hl _ _
   ·rw [if_neg hnl]
    have := VRel.row (F := F) (w := w) b l (h - l) g true 1 cap hJ (by omega);rw [hcn] at this
    have e : Addr.add ⟨g, 0, none⟩ (l * 1) = ⟨g, l * 1, none⟩ := by
     unfold Addr.add;by_cases hl : l = 0
     ·subst hl; simp
     ·simp [hl]
    rw [e];exact this
  | boxDead _ _ _ hJ' => rw [hJ] at hJ'; cases hJ'
theorem zf5 (hC : qr4 P C) (hH : HRel J F w H) (hr : qz7 J F w ρ a) {ρp : Bool->Opd->AV} {o : Oper} {p : ROp} (hc : zf4 P o = some p) {ns id : Id} {x : AV} {H' : Hp} (hs : qe7 C H ρ ρp ns id (.r p) = some (x, H')) : zf3 P J F w a o x H' := by
 unfold zf4 at hc;split at hc
 ·rename_i t y ho
  split at hc
  ·rename_i y' d hy ht
   cases hc;simp only [qe7, qiU, Option.map_eq_some_iff, Prod.mk.injEq] at hs;obtain ⟨z, hz, rfl, rfl⟩ := hs;obtain ⟨u, hu, hv⟩ := qoA hH ht (hr.ev hy) hz;exact (qx7 (s := Instr.loadAt t (a.eval y)) (by unfold execOp; simp only [ho]) hu hv).does hH
  ·cases hc
 ·rename_i src dst y ho
  split at hc
  ·rename_i y' e hy hsrc hdst
   split at hc
   ·rename_i he
    cases hc;simp only [qe7, qiU, Option.map_eq_some_iff, Prod.mk.injEq] at hs;obtain ⟨z, ⟨l, hl, rfl⟩, rfl, rfl⟩ := hs;have := zm7 hH hsrc he hdst (hr.ev hy) hl;exact (qx7 (s := convert src dst (a.eval y)) (by unfold execOp; simp only [ho]) this (.val _ _ (.str _))).does hH
   ·cases hc
  ·rename_i y' e hy hsrc hdst
   split at hc
   ·rename_i he
    cases hc;simp only [qe7, qiU, Option.map_eq_some_iff, Prod.mk.injEq] at hs;obtain ⟨z, hz, rfl, rfl⟩ := hs;split at hz
    ·rename_i b hb
     cases hz;have hv := hr.ev hy;rw [hb] at hv;obtain ⟨v, w', F', h1, h2, h3, h4⟩ := zm8 hH hsrc hdst he b;refine qp2 ?_ h2 h3 h4
     unfold execOp;simp only [ho, hv.str, Sem.run_bind, h1, Result.andThen_ok, Sem.run_pure]
    ·cases hz
   ·cases hc
  ·cases hc
 ·rename_i t y lo hi ho
  split at hc
  ·rename_i y' lo' hi' n e hy h1 h2 ht
   split at hc
   ·rename_i h1c
    split at hc
    ·rename_i i hi0
     cases hc;simp only [qe7, qiU, Option.map_eq_some_iff, Prod.mk.injEq] at hs;obtain ⟨z, hz, rfl, rfl⟩ := hs;split at hz
     ·rename_i b hb
      split at hz
      ·rename_i cells hB
       split at hz
       ·rename_i hn
        simp only [Option.map_eq_some_iff] at hz;obtain ⟨⟨l, h, m⟩, hbo, rfl⟩ := hz;exact (zn0 hH hr ho hy h1 h2 ht hi0 (by rw [← qf1 hi0]; exact h1c) hb hB hn hbo).does hH
       ·cases hz
      ·cases hz
     ·cases hz
    ·cases hc
   ·cases hc
  ·cases hc
 ·rename_i c ho
  split at hc
  ·rename_i f l hcal hargs
   cases hc;simp only [qe7] at hs;obtain ⟨h1, h2⟩ := qcO hC hH (qjE hr hargs) hs;refine qoB (args := (c.args.map a.eval)) ?_ (by rw [Array.toArray_toList] at h2; exact h2)
   unfold execOp resolve;simp only [ho, hcal, Act.eval, Deferred.ofValue, Sem.run_bind, Sem.run_pure, Result.andThen_ok, invoke];have := qo7 (w := w) h1 (c.args.map a.eval);simpa using this
  ·rename_i t l hcal hargs
   cases hc;simp only [qe7] at hs;have hv := hr.ev (x := .tmp t) (y := .t t) rfl
   have go : ∀ (f : FuncId) (vs : List Value), a.eval (.tmp t) = .func (.func f) #[] vs.toArray->∀ avs, (vs.length = avs.length/\∀ (j : Nat) y v, avs[j]? = some y->vs[j]? = some v->VRel J F w y v)->qt8 C H id f (l.map ρ ++ avs) = some (x, H')->zf3 P J F w a o x H' := by
    intro f vs hev avs hav hs;obtain ⟨h1, h2⟩ := qcO hC hH (qoC (qjE hr hargs) hav) hs
    refine qoB (args := (c.args.map a.eval ++ vs.toArray)) ?_ (by
     have e : ((c.args.map a.eval).toList ++ vs).toArray = c.args.map a.eval ++ vs.toArray := by apply Array.ext'; simp
     rw [← e]; exact h2)
    unfold execOp resolve;simp only [ho, hcal, hev, Deferred.ofValue, Sem.run_bind, Sem.run_pure, Result.andThen_ok, invoke];have := qo7 (w := w) h1 (c.args.map a.eval ++ vs.toArray);simpa using this
   generalize hev : a.eval (.tmp t) = fv at hv;split at hs
   ·rename_i f caps hf
    rw [hf] at hv;cases hv.inv_val with
    | fn _ _ vs hl hrep =>
    exact go f vs hev (caps.map .val) ⟨by simp [hl], fun j y v q1 q2 => by
     simp only [List.getElem?_map, Option.map_eq_some_iff] at q1;obtain ⟨d, q1, rfl⟩ := q1;exact .val _ _ (hrep j d v q1 q2)⟩ hs
   ·rename_i f caps hf
    rw [hf] at hv;cases hv with
    | clo _ _ vs hl hrep => exact go f vs hev caps ⟨hl, hrep⟩ hs
   ·cases hs
  ·cases hc
 ·cases hc
end
def compW (P : Program) (o : Oper) : Option WOp :=
 match o.op with
 | .convert src dst x => match qo5 x, P.underlying src with
  | some x', some (.slice e) => (match P.underlying e with | some (.int .u8) => if src = dst then some (.s2s x') else none | _ => none)
  | _, _ => none
 | .store t x v => match qo5 x, qkB P t v, P.info? t with
  | some x', some v', some i => some (.store i.size x' v')
  | _, _, _ => none
 | .call c => match c.callee, c.args.toList, c.argTypes.toList with
  | .builtin .clear, [x], [t] => match P.underlying t with
   | some (.slice e) => match qkB P t x, P.info? e, qr2 P e with
    | some x', some i, some z => if z.length = i.size/\c.args.size = 1/\c.argTypes.size = 1 then some (.clr i.size z x') else none
    | _, _, _ => none
   | _ => none
  | .builtin .append, [x, y], [t, u] => match P.underlying t, P.underlying u with
   | some (.slice e), some du => match qkB P t x, qkB P u y, P.info? e, qr2 P e with
    | some x', some y', some i, some z => if z.length = i.size/\c.args.size = 2/\c.argTypes.size = 2 then (match du with
     | .slice _ => some (.app i.size i.bytes false x' y')
     | .string => if i.size = 1 then some (.app i.size i.bytes true x' y') else none
     | _ => none) else none
    | _, _, _, _ => none
   | _, _ => none
  | _, _, _ => none
 | _ => none
def qsQ (P : Program) (o : Oper) : Option AOp :=
 match compP P o, zf4 P o, compA P o, compW P o with
 | some p, _, _, _ => some (.p p)
 | none, some p, _, _ => some (.r p)
 | none, none, some p, _ => some (.a p)
 | none, none, none, some p => some (.w p)
 | _, _, _, _ => none
section
variable {P : Program} {J : Id->JI} {F : Nat->Prop} {w : World} {H : Hp} {ρ : Opd->AV} {ρp : Bool->Opd->AV} {a : Act} {C : FuncId->Con}
theorem qoD {o : Oper} {t : TypeId} {x v : Operand} (ho : o.op = .store t x v) {w' : World} (h : (Instr.storeAt t (a.eval x) (a.eval v)).run P w = .ok () w') : (execOp a.eval o).run P w = .ok .skip w' := by
 unfold execOp;simp only [ho, Sem.run_bind, h, Result.andThen_ok, Sem.run_pure]
theorem qwK (hH : HRel J F w H) (hr : qz7 J F w ρ a) {o : Oper} {t : TypeId} {i : TypeInfo} {x v : Operand} {x' v' : Opd} (ho : o.op = .store t x v) (hx : qo5 x = some x') (hv : qkB P t v = some v') (hi : P.info? t = some i)
  {ns id : Id} {r : AV} {H' : Hp} (hs : qdE C H ρ ns id (.store i.size x' v') = some (r, H')) : zf3 P J F w a o r H' := by
 have hvx := hr.ev hx;have hvv := qcN hv hr;simp only [qdE] at hs;split at hs
 ·rename_i cs hcs
  obtain ⟨hl, hrel⟩ := hvv.cells hcs;split at hs
  ·rename_i hn
   obtain ⟨hn, hsg⟩ := hn;split at hs
   ·rename_i b o' hxb
    rw [hxb] at hvx;split at hs
    ·rename_i cells hb
     split at hs
     ·rename_i hfit
      simp only [Option.some.injEq, Prod.mk.injEq] at hs;obtain ⟨rfl, rfl⟩ := hs;obtain ⟨w', h1, h2, h3⟩ := zm5 hH hi hvx hb hl hrel hsg hn (by omega);exact qsM (qoD ho h1) h2 h3
     ·cases hs
    ·cases hs
   ·rename_i b k o' hxb
    rw [hxb] at hvx;split at hs
    ·rename_i s es ds ids hb hd
     split at hs
     ·rename_i es' H1 hst hfix
      split at hs
      ·cases hs
      ·rename_i hno
       simp only [Option.some.injEq, Prod.mk.injEq] at hs;obtain ⟨rfl, rfl⟩ := hs;have hno : ids.contains b = false := by cases hh : ids.contains b <;> simp_all
       obtain ⟨hdl, hdr⟩ := (qt0 hH 99).2 _ _ _ hd;obtain ⟨J1, F1, hH1, he1, hle⟩ := qbL hH hfix;have hb1 : H1 b = some (.row s es) := by rw [qbO hfix hno]; exact hb
       have hone : ∀ (j : Nat) u, (a.eval v).cells.toList[j]? = some u->u.oneCell' = true := by
        intro j u hu;have hj : j < cs.length := by rw [← hl]; exact (List.getElem?_eq_some_iff.1 hu).1
        exact (hrel j _ u (List.getElem?_eq_getElem hj) hu).one (List.all_eq_true.1 hsg _ (List.getElem_mem hj))
       obtain ⟨w', h1, h2, h3⟩ := zm6 (ds := ds) hH1 hi (hvx.ext hH he1) hb1 ⟨by rw [hl, hdl], fun j d u q1 q2 => by
        have hj : j < cs.length := by rw [← hl]; exact (List.getElem?_eq_some_iff.1 q2).1
        exact (hdr j _ d u (List.getElem?_eq_getElem hj) q1 (hrel j _ u (List.getElem?_eq_getElem hj) q2)).mono hle (fun _ _ => rfl)⟩ hone (by rw [hdl, hn]) hst
       exact qsM (qoD ho h1) h2 (he1.trans h3)
     ·cases hs
    ·cases hs
   ·cases hs
  ·cases hs
 ·cases hs
theorem qsR (hH : HRel J F w H) (hr : qz7 J F w ρ a) {o : Oper} {c : Call} (ho : o.op = .call c) (hcal : c.callee = .builtin .append) {x y : Operand} {t u e : TypeId} {du : TypeDesc} (hargs : c.args = #[x, y]) (hats : c.argTypes = #[t, u])
  (ht : P.underlying t = some (.slice e)) (hu : P.underlying u = some du) {x' y' : Opd} (hx : qkB P t x = some x') (hy : qkB P u y = some y') {i : TypeInfo} (hi : P.info? e = some i) {z : List DV} (hz : qr2 P e = some z) (hzl : z.length = i.size)
  {str : Bool} (hdu : (str = false/\∃ e', du = .slice e')\/((str = true/\i.size = 1)/\du = .string)) {ns id : Id} {r : AV} {H' : Hp} (hs : qdE C H ρ ns id (.app i.size i.bytes str x' y') = some (r, H')) : zf3 P J F w a o r H' := by
 have hvx := qcN hx hr;have hvy := qcN hy hr;simp only [qdE] at hs;split at hs
 ·rename_i ys hys
  have hsrc : ∃ news, Src P F w i.size ys (a.eval y) news := by
   rcases hdu with ⟨rfl, _⟩ | ⟨⟨rfl, h1⟩, _⟩
   ·exact qfJ hH hvy hys
   ·simp only [if_true] at hys
    split at hys
    ·rename_i b hb
     rw [hb] at hvy;rw [hvy.str];cases hys;rw [h1];exact ⟨_, str_src b⟩
    ·cases hys
  obtain ⟨news, hsrc⟩ := hsrc;split at hs
  ·cases hs
  ·rename_i hid
   have hid : H id = none := by cases hh : H id <;> simp_all
   obtain ⟨z0, hz0, hz1⟩ : ∃ v, i.zero = some v/\True := by
    unfold qr2 at hz;rw [hi] at hz;cases hq : i.zero with
    | none => simp [hq] at hz
    | some v => exact ⟨v, rfl, trivial⟩
   obtain ⟨v', w', J', h1, h2, h3, h4⟩ := qbN (ty := o.type) hH ht hi hz0 hz hzl hu (hdu.imp (fun h => h.2) (fun h => h.2)) hid hvx hsrc hs;refine qp2 ?_ h2 h3 h4
   unfold execOp resolve;simp only [ho, hcal, hargs, hats, Sem.run_bind, Sem.run_pure, Result.andThen_ok, invoke, builtin];have e1 : (#[x, y] : Array Operand).map a.eval = #[a.eval x, a.eval y] := by simp
   rw [e1, h1];rfl
 ·cases hs
theorem Rep.cells {F' : Nat->Prop} {w' : World} {d : DV} {v : Value} (h : Rep F w d v) (hF : ∀ g, F g->F' g) (hw : ∀ a : Addr, w'.cell? a = w.cell? a) : Rep F' w' d v := by
 induction h with
 | int k n => exact .int k n
 | bool b => exact .bool b
 | str s => exact .str s
 | sl0 s a c => exact .sl0 s a c
 | nils s a => exact .nils s a
 | sl s l g o c vals hs hc h1 hg hcell _ ih => exact .sl s l g o c vals hs hc h1 (hF g hg) (fun i j e d h1 h2 => by rw [hw]; exact hcell i j e d h1 h2) ih
 | pt cells g o vals hg hcell _ ih => exact .pt cells g o vals (hF g hg) (fun j d h1 => by rw [hw]; exact hcell j d h1) ih
 | nilp => exact .nilp
 | nili => exact .nili
 | ifc t d v _ ih => exact .ifc t d v ih
 | fn f caps vs hl _ ih => exact .fn f caps vs hl ih
 | nilf => exact .nilf
 | agg l vs hl _ ih => exact .agg l vs hl ih
 | tup l vs hl _ ih => exact .tup l vs hl ih
theorem VRel.cellsJ {J' : Id->JI} {F' : Nat->Prop} {w' : World} {x : AV} {v : Value} (h : VRel J F w x v) (hJ : ∀ id, (J id).le (J' id)) (hF : ∀ g, F g->F' g) (hw : ∀ a : Addr, w'.cell? a = w.cell? a) : VRel J' F' w' x v := by
 induction h with
 | val d v h => exact .val d v (h.cells hF hw)
 | box id o g own s cap h => exact (JI.le_live (hJ id) h).elim (fun h => .boxDead _ _ _ h) (fun ⟨_, h⟩ => .box _ _ _ _ _ _ h)
 | boxDead id o p h => exact .boxDead _ _ _ (JI.le_dead (hJ id) h)
 | elt id i o g own s cap h => exact (JI.le_live (hJ id) h).elim (fun h => .eltDead _ _ _ _ h) (fun ⟨_, h⟩ => .elt _ _ _ _ _ _ _ h)
 | eltDead id i o p h => exact .eltDead _ _ _ _ (JI.le_dead (hJ id) h)
 | row id o len g own s cap h hc => exact (JI.le_live (hJ id) h).elim (fun h => .rowDead _ _ _ _ _ _ h (by omega) (by simp)) (fun ⟨_, h⟩ => .row _ _ _ _ _ _ _ h hc)
 | rowNil id own s cap a h => exact (JI.le_live (hJ id) h).elim (fun h => .rowDead _ _ _ _ _ _ h (Nat.le_refl _) (by simp)) (fun ⟨_, h⟩ => .rowNil _ _ _ _ _ h)
 | rowEnd id o g own s cap h ho a c => exact (JI.le_live (hJ id) h).elim (fun h => .rowDead _ _ _ _ _ _ h (Nat.zero_le _) (by simp)) (fun ⟨_, h⟩ => .rowEnd _ _ _ _ _ _ h ho _ _)
 | rowDead id s o len p c h hc hp => exact .rowDead _ _ _ _ _ _ (JI.le_dead (hJ id) h) hc hp
 | agg l vs hl _ ih => exact .agg l vs hl ih
 | tup l vs hl _ ih => exact .tup l vs hl ih
 | clo f l vs hl _ ih => exact .clo f l vs hl ih
 | may c x v _ h' ih => exact .may c x v ih h'
 | junk v => exact .junk v
theorem qwL (w : World) (a : Addr) (n : Nat) (b : Addr) : (w.freeze a n).cell? b = w.cell? b := by
 unfold World.freeze;split
 ·rfl
 ·unfold World.cell?
  simp only [Array.getElem?_modify];by_cases e : a.block = b.block
  ·rw [if_pos e]
   cases hq : w.heap[b.block]? with
   | none => simp
   | some o =>
    simp only [Option.map_some];cases o with
    | cells c el fr => obtain ⟨lo, hi⟩ := fr; rfl
    | _ => rfl
  ·rw [if_neg e]
theorem qsS (w : World) (a : Addr) (n g : Nat) (h : g ≠ a.block) : (w.freeze a n).heap[g]? = w.heap[g]? := by
 unfold World.freeze;split
 ·rfl
 ·simp only [Array.getElem?_modify, if_neg (Ne.symm h)]
theorem qeB (w : World) (a : Addr) (n : Nat) : (w.freeze a n).heap.size = w.heap.size := by
 unfold World.freeze;split
 ·rfl
 ·simp
theorem zn1 (hH : HRel J F w H) (hr : qz7 J F w ρ a) {o : Oper} {src e : TypeId} {x : Operand} {x' : Opd} (ho : o.op = .convert src src x) (hx : qo5 x = some x') (hs : P.underlying src = some (.slice e)) (he : P.underlying e = some (.int .u8))
  {ns id : Id} {r : AV} {H' : Hp} (h : qdE C H ρ ns id (.s2s x') = some (r, H')) : zf3 P J F w a o r H' := by
 have hv := hr.ev hx;simp only [qdE] at h;split at h
 ·rename_i b s o' n hxb
  rw [hxb] at hv;split at h
  ·rename_i s' es hb
   split at h
   ·rename_i hc
    obtain ⟨hn, rfl⟩ := hc;simp only [Option.some.injEq, Prod.mk.injEq] at h;obtain ⟨rfl, rfl⟩ := h
    have hf : fix H [b] = some (upd H b (some (.frow s' es))) := by
     simp only [fix, List.all_cons, List.all_nil, Bool.and_true, qdX, hb, if_true, Option.some.injEq]
     funext i
     simp only [upd, List.contains_cons, List.contains_nil, Bool.or_false, beq_iff_eq];split
     ·rename_i e; subst e; rw [hb]; rfl
     ·rfl
    obtain ⟨J1, F1, hH1, he1, hle⟩ := qbL hH hf;generalize hev : a.eval x = u at hv;cases hH.blk _ _ hb with
    | row _ _ g cap cur ty hJ hg hsz hn' hm hel hcc h1 =>
     have hv1 := hv.ext hH he1
     have hshape : ∃ k c, u = .slice (some ⟨g, k, none⟩) n c := by
      cases hv with
      | row _ _ _ g' own _ cap' hJ' _ => rw [hJ] at hJ'; cases hJ'; exact ⟨_, _, rfl⟩
      | rowNil _ _ _ _ _ hJ' => exact absurd rfl hn
      | rowEnd _ _ _ _ _ _ hJ' _ => exact absurd rfl hn
      | rowDead _ _ _ _ _ _ hJ' => rw [hJ] at hJ'; cases hJ'
     obtain ⟨k, c, hu⟩ := hshape
     have hrun : (convert src src u).run P w = .ok u (w.freeze ⟨g, cur.size, none⟩ 1) := by
      subst hu;have hsh : w.shape? g = some (ty, cur.size) := by simp [World.shape?, hg]
      simp [convert, run_underlying hs, run_underlying he, markStringish, hsh]
     have hcell := qwL w ⟨g, cur.size, none⟩ 1;have hoth : ∀ q, q ≠ g->(w.freeze ⟨g, cur.size, none⟩ 1).heap[q]? = w.heap[q]? := fun q hq => qsS w _ 1 q hq
     have hFg : F1 g := hle g (.inr ⟨b, by simp, s', cap, hJ⟩)
     refine qp2 (v := u) (w' := w.freeze ⟨g, cur.size, none⟩ 1) (J' := J1) (F' := F1) ?_ (hv1.cellsJ (fun _ => JI.le_refl _) (fun _ h => h) hcell) ⟨?_, hH1.none, hH1.inj, hH1.own, fun i q o s c h => by rw [qeB]; exact hH1.live i q o s c h, fun q hq => by rw [qeB]; exact hH1.fsz q hq, hH.tab.mono he1.fle (fun q hq => hoth q (fun e' => hH.own q (e' ▸ ⟨b, _, _, hJ⟩) hq))⟩
      ⟨he1.le, he1.fle, he1.fnew, he1.onew, ?_, by rw [qeB]; exact Nat.le_refl _, ?_, ?_, ?_⟩
     ·unfold execOp
      simp only [ho, hev, Sem.run_bind, hrun, Result.andThen_ok, Sem.run_pure]
     ·intro i bb hbb
      cases hH1.blk i bb hbb with
      | box cells g' s cap cur e hJ' hg' hs hc h1 hk =>
       have hne : g' ≠ g := fun e' => hH1.own g' ⟨i, _, _, hJ'⟩ (e' ▸ hFg)
       exact .box cells g' s cap cur e hJ' ((hoth _ hne).trans hg') hs (fun j x v h2 h3 => (hc j x v h2 h3).cellsJ (fun _ => JI.le_refl _) (fun _ h => h) hcell) h1 hk
      | row s es g' cap cur e hJ' hg' hs hn hm he hc h1 =>
       have hne : g' ≠ g := fun e' => hH1.own g' ⟨i, _, _, hJ'⟩ (e' ▸ hFg)
       exact .row s es g' cap cur e hJ' ((hoth _ hne).trans hg') hs hn hm he (fun i j x d v h2 h3 h4 => (hc i j x d v h2 h3 h4).cells (fun _ h => h) hcell) h1
      | rowNil s cap h => exact .rowNil s cap h
      | fbox cells g' own s cap vals hJ' hown hFg' hcl hrep hk => exact .fbox cells g' own s cap vals hJ' hown hFg' (fun j d h2 => by rw [hcell]; exact hcl j d h2) (fun j d h2 => (hrep j d h2).cells (fun _ h => h) hcell) hk
      | frow s es g' own cap vals hJ' hown hFg' he hsg hn hcl hrep => exact .frow s es g' own cap vals hJ' hown hFg' he hsg hn (fun i j x d h2 h3 => by rw [hcell]; exact hcl i j x d h2 h3) (fun i j x d h2 h3 => (hrep i j x d h2 h3).cells (fun _ h => h) hcell)
      | frowNil s cap own h => exact .frowNil s cap own h
      | fns s es g' cap cur e hJ' hg' hs hn he hc h1 =>
       have hne : g' ≠ g := fun e' => hH1.own g' ⟨i, _, _, hJ'⟩ (e' ▸ hFg)
       exact .fns s es g' cap cur e hJ' ((hoth _ hne).trans hg') hs hn he (fun i j x y v h2 h3 h4 => (hc i j x y v h2 h3 h4).cellsJ (fun _ => JI.le_refl _) (fun _ h => h) hcell) h1
      | dead h => exact .dead h
     ·intro q hq hno
      exact hoth q (fun e' => hno (e' ▸ ⟨b, _, _, hJ⟩))
     ·rfl
     ·rfl
     ·rfl
    | rowNil _ _ hJ =>
     exfalso;cases hv with
     | row _ _ _ g' own _ cap' hJ' _ => rw [hJ] at hJ'; cases hJ'
     | rowNil _ _ _ _ _ hJ' => exact hn rfl
     | rowEnd _ _ _ _ _ _ hJ' _ => exact hn rfl
     | rowDead _ _ _ _ _ _ hJ' => rw [hJ] at hJ'; cases hJ'
   ·cases h
  ·cases h
 ·cases h
theorem qdM {t ty e : TypeId} {i : TypeInfo} {z : Value} (ht : P.underlying t = some (.slice e)) (hi : P.info? e = some i) (hz : i.zero = some z) (hzs : z.cells.size = i.size) (hz1 : ∀ (j : Nat) u, z.cells.toList[j]? = some u->u.oneCell' = true) {g o n c : Nat} {cur : Array Value} {te : TypeId}
  (hg : w.heap[g]? = some (.cells cur te (0, 0))) (hn : 0 < n) (hfit : o + n * i.size<=cur.size) :
  (Builtin.clear_ #[t] ty #[.slice (some ⟨g, o, none⟩) n c]).run P w = .ok (.tuple #[]) (w.setRow g (splice cur.toList o (Builtin.zeroCells z.cells n).toList).toArray) := by
 have hst := run_storeCells_at P g o te (Builtin.zeroCells z.cells n).toList 0 cur w hg (by simpa [size_zeroCells, hzs] using hfit) (qw8 (qh3 hz1 n));simp only [Nat.add_zero] at hst;rw [qq9] at hst;obtain ⟨m, rfl⟩ : ∃ m, n = m + 1 := ⟨n - 1, by omega⟩;have hv : (zeroValue e).run P w = .ok z w := by simp [zeroValue, typeInfo, hi, hz]
 simp [Builtin.clear_, run_underlying ht, hv, hst]
theorem qdN {t ty e : TypeId} (ht : P.underlying t = some (.slice e)) (p : Option Addr) (c : Nat) : (Builtin.clear_ #[t] ty #[.slice p 0 c]).run P w = .ok (.tuple #[]) w := by
 cases p <;> simp [Builtin.clear_, run_underlying ht]
theorem qsT {z : Array Value} {n k j : Nat} (hk : k < n) (hj : j < z.size) : (Builtin.zeroCells z n).toList[k * z.size + j]? = z.toList[j]? := by
 have h1 : k * z.size + j < n * z.size := by
  have : (k + 1) * z.size<=n * z.size := Nat.mul_le_mul_right _ hk;rw [Nat.succ_mul] at this;omega
 have h2 : (k * z.size + j) % z.size = j := by rw [Nat.mul_comm, Nat.mul_add_mod, Nat.mod_eq_of_lt hj]
 simp only [Builtin.zeroCells, Array.toList_map, Array.toList_range, List.getElem?_map, List.getElem?_range h1, Option.map_some, h2];simp [hj]
theorem upd_self {b : Id} {x : Blk} (h : H b = some x) : upd H b (some x) = H := by
 funext i
 unfold upd;split
 ·rename_i e; subst e; exact h.symm
 ·rfl
theorem zn2 (hH : HRel J F w H) (hr : qz7 J F w ρ a) {o : Oper} {c : Call} (ho : o.op = .call c) (hcal : c.callee = .builtin .clear) {x : Operand} {t e : TypeId} (hargs : c.args = #[x]) (hats : c.argTypes = #[t])
  (ht : P.underlying t = some (.slice e)) {x' : Opd} (hx : qkB P t x = some x') {i : TypeInfo} (hi : P.info? e = some i) {z : List DV} (hz : qr2 P e = some z) (hzl : z.length = i.size)
  {ns id : Id} {r : AV} {H' : Hp} (hs : qdE C H ρ ns id (.clr i.size z x') = some (r, H')) : zf3 P J F w a o r H' := by
 have hvx := qcN hx hr
 have hex : ∀ {w' : World}, (Builtin.clear_ #[t] o.type #[a.eval x]).run P w = .ok (.tuple #[]) w'->(execOp a.eval o).run P w = .ok (.value (.tuple #[])) w' := by
  intro w' h;obtain ⟨cal, args, ats⟩ := c;simp only at hcal hargs hats;subst hcal hargs hats;unfold execOp;simp only [ho, resolve, invoke, builtin, Sem.run_bind, Sem.run_pure, Result.andThen_ok, List.map_toArray, List.map_cons, List.map_nil, h]
 have htup : ∀ {J' : Id->JI} {F' : Nat->Prop} {w' : World}, VRel J' F' w' (.val (.tup [])) (.tuple #[]) := fun {J' F' w'} => .val _ _ (.tup [] [] rfl (fun j d v h => by simp at h))
 simp only [qdE] at hs;split at hs
 ·rename_i k hk
  rw [hk] at hvx;simp only [Option.some.injEq, Prod.mk.injEq] at hs;obtain ⟨rfl, rfl⟩ := hs;cases hvx with
  | val _ _ hrep =>
   generalize hev : a.eval x = u at hrep;cases hrep with
   | nils _ p =>
    exact qp2 (hex (by rw [hev]; exact qdN ht p 0)) htup hH (Ext.refl _ _ _)
 ·rename_i b s' o' n hxb
  rw [hxb] at hvx;split at hs
  ·rename_i s'' es hb
   split at hs
   ·rename_i hc
    obtain ⟨rfl, rfl, _, hsg, hfit⟩ := hc;simp only [Option.some.injEq, Prod.mk.injEq] at hs;obtain ⟨rfl, rfl⟩ := hs;by_cases hn0 : n = 0
    ·subst hn0
     have hes : es.take o' ++ List.replicate 0 (z.map DV.norm1) ++ es.drop (o' + 0) = es := by simp
     rw [hes, upd_self hb]
     obtain ⟨p, c', hu⟩ : ∃ p c', a.eval x = .slice p 0 c' := by
      generalize a.eval x = u at hvx ⊢;cases hvx <;> exact ⟨_, _, rfl⟩
     exact qp2 (hex (by rw [hu]; exact qdN ht p c')) htup hH (Ext.refl _ _ _)
    ·cases hH.blk _ _ hb with
     | row _ _ g cap cur te hJ hg hsz hn' hm hel hcc h1 =>
      obtain ⟨c', hu⟩ : ∃ c', a.eval x = .slice (some ⟨g, o' * i.size, none⟩) n c' := by
       generalize a.eval x = u at hvx ⊢;cases hvx with
       | row _ _ _ g' own _ cap' hJ' _ => rw [hJ] at hJ'; cases hJ'; exact ⟨_, rfl⟩
       | rowNil _ _ _ _ _ hJ' => exact absurd rfl hn0
       | rowEnd _ _ _ _ _ _ hJ' _ => exact absurd rfl hn0
       | rowDead _ _ _ _ _ _ hJ' => rw [hJ] at hJ'; cases hJ'
      obtain ⟨i0, zv, hi0, hz0, _, hzr⟩ := qx6 (F := F) (w := w) hz;rw [hi] at hi0;cases hi0;have hzs : zv.cells.size = i.size := by rw [← hzl, ← hzr.1]; simp
      have hz1 : ∀ (j : Nat) u, zv.cells.toList[j]? = some u->u.oneCell' = true := by
       unfold qr2 at hz;rw [hi] at hz;simp only [hz0] at hz;exact qt1 hz
      have hos : (o' + n) * i.size<=cap * i.size := Nat.mul_le_mul_right _ (by omega);rw [Nat.add_mul] at hos;have hrun := qdM (P := P) (w := w) (ty := o.type) (c := c') ht hi hz0 hzs hz1 hg (n := n) (o := o' * i.size) (by omega) (by omega);have hZl : (Builtin.zeroCells zv.cells n).toList.length = n * i.size := by rw [Array.length_toList, size_zeroCells, hzs]
      have hfit' : o' * i.size + (Builtin.zeroCells zv.cells n).toList.length<=cur.toList.length := by rw [hZl]; simp; omega
      have hmid : ∀ q, (es.take o' ++ List.replicate n (z.map DV.norm1) ++ es.drop (o' + n))[q]? = if q < o' then es[q]? else if q < o' + n then some (z.map DV.norm1) else es[q]? := by
       intro q;have e1 := qe5 es o' (List.replicate n (z.map DV.norm1)) (by simpa using hfit) q;unfold splice at e1;simp only [List.length_replicate] at e1;rw [e1];split
       ·rfl
       ·split
        ·rw [List.getElem?_replicate, if_pos (by omega)]
        ·rfl
      obtain ⟨q1, q2⟩ := qgS hH hJ (cur' := (splice cur.toList (o' * i.size) (Builtin.zeroCells zv.cells n).toList).toArray) hg (.row i.size (es.take o' ++ List.replicate n (z.map DV.norm1) ++ es.drop (o' + n))) (by
       intro hV hR hg';refine .row i.size _ g cap _ te hJ hg' ?_ ?_ hm ?_ ?_ ?_
       ·rw [List.size_toArray, qc8 _ _ _ hfit']; simpa using hsz
       ·simp only [List.length_append, List.length_take, List.length_replicate, List.length_drop]; omega
       ·intro y hy
        rcases List.mem_append.1 hy with hy | hy
        ·rcases List.mem_append.1 hy with hy | hy
         ·exact hel y (List.mem_of_mem_take hy)
         ·rw [List.eq_of_mem_replicate hy, List.length_map, hzl]
        ·exact hel y (List.mem_of_mem_drop hy)
       ·intro q j y d u h2 h3 h4
        rw [hmid] at h2;have h4 : (splice cur.toList (o' * i.size) (Builtin.zeroCells zv.cells n).toList)[q * i.size + j]? = some u := by simpa using h4
        rw [qe5 _ _ _ hfit', hZl] at h4;have hj : ∀ y : List DV, y.length = i.size->y[j]? = some d->j < i.size := fun y e h => by have := (List.getElem?_eq_some_iff.1 h).1; omega
        by_cases hq1 : q < o'
        ·rw [if_pos hq1] at h2
         have hj := hj y (hel y (List.mem_of_getElem? h2)) h3;have : (q + 1) * i.size<=o' * i.size := Nat.mul_le_mul_right _ hq1;rw [Nat.succ_mul] at this;rw [if_pos (by omega)] at h4;exact hR d u (hcc q j y d u h2 h3 (by simpa using h4))
        ·rw [if_neg hq1] at h2
         have hge : o' * i.size<=q * i.size := Nat.mul_le_mul_right _ (by omega);rw [if_neg (by omega)] at h4;by_cases hq2 : q < o' + n
         ·rw [if_pos hq2] at h2
          cases h2;have hj := hj _ (by rw [List.length_map, hzl]) h3;have : (q + 1) * i.size<=(o' + n) * i.size := Nat.mul_le_mul_right _ hq2;rw [Nat.succ_mul, Nat.add_mul] at this;rw [if_pos (by omega)] at h4
          have e2 : q * i.size + j - o' * i.size = (q - o') * zv.cells.size + j := by
           rw [hzs, Nat.sub_mul];omega
          rw [e2, qsT (by omega) (by rw [hzs]; exact hj)] at h4;rw [List.getElem?_map] at h3;obtain ⟨d0, h5, rfl⟩ := Option.map_eq_some_iff.1 h3;exact hR _ u (Rep.norm1 (hzr.2 j d0 u h5 h4))
         ·rw [if_neg hq2] at h2
          have hge2 : (o' + n) * i.size<=q * i.size := Nat.mul_le_mul_right _ (by omega);rw [Nat.add_mul] at hge2;rw [if_neg (by omega)] at h4;exact hR d u (hcc q j y d u h2 h3 (by simpa using h4))
       ·intro j u h2
        have h2 : (splice cur.toList (o' * i.size) (Builtin.zeroCells zv.cells n).toList)[j]? = some u := by simpa using h2
        rw [qe5 _ _ _ hfit'] at h2;split at h2
        ·exact h1 j u (by simpa using h2)
        ·split at h2
         ·exact qh3 hz1 _ _ u h2
         ·exact h1 j u (by simpa using h2))
      exact qp2 (hex (by rw [hu]; exact hrun)) htup q1 q2
     | rowNil _ _ hJ =>
      exfalso;generalize a.eval x = u at hvx;cases hvx with
      | row _ _ _ g' own _ cap' hJ' _ => rw [hJ] at hJ'; cases hJ'
      | rowNil _ _ _ _ _ hJ' => exact hn0 rfl
      | rowEnd _ _ _ _ _ _ hJ' _ => exact hn0 rfl
      | rowDead _ _ _ _ _ _ hJ' => rw [hJ] at hJ'; cases hJ'
   ·cases hs
  ·cases hs
 ·cases hs
theorem qwM (hH : HRel J F w H) (hr : qz7 J F w ρ a) {o : Oper} {p : WOp} (hc : compW P o = some p) {ns id : Id} {r : AV} {H' : Hp} (hs : qdE C H ρ ns id p = some (r, H')) : zf3 P J F w a o r H' := by
 unfold compW at hc;split at hc
 ·rename_i src dst x ho
  split at hc
  ·rename_i x' e hx hs'
   split at hc
   ·rename_i he
    split at hc
    ·rename_i hsd
     subst hsd;cases hc;exact zn1 hH hr ho hx hs' he hs
    ·cases hc
   ·cases hc
  ·cases hc
 ·rename_i t x v ho
  split at hc
  ·rename_i x' v' i hx hv hi
   cases hc;exact qwK hH hr ho hx hv hi hs
  ·cases hc
 ·rename_i c ho
  split at hc
  ·rename_i x t hcal hargs hats
   split at hc
   ·rename_i e ht
    split at hc
    ·rename_i x' i z hx hi hz
     have ha : c.args = #[x] := by apply Array.ext'; simpa using hargs
     have hb : c.argTypes = #[t] := by apply Array.ext'; simpa using hats
     split at hc
     ·rename_i hcond
      cases hc;exact zn2 hH hr ho hcal ha hb ht hx hi hz hcond.1 hs
     ·cases hc
    ·cases hc
   ·cases hc
  ·rename_i x y t u hcal hargs hats
   split at hc
   ·rename_i e du ht hu
    split at hc
    ·rename_i x' y' i z hx hy hi hz
     have ha : c.args = #[x, y] := by apply Array.ext'; simpa using hargs
     have hb : c.argTypes = #[t, u] := by apply Array.ext'; simpa using hats
     split at hc
     ·rename_i hcond
      split at hc
      ·cases hc
       exact qsR hH hr ho hcal ha hb ht hu hx hy hi hz hcond.1 (.inl ⟨rfl, _, rfl⟩) hs
      ·split at hc
       ·rename_i h1
        cases hc;exact qsR hH hr ho hcal ha hb ht hu hx hy hi hz hcond.1 (.inr ⟨⟨rfl, h1⟩, rfl⟩) hs
       ·cases hc
      ·cases hc
     ·cases hc
    ·cases hc
   ·cases hc
  ·cases hc
 ·cases hc
theorem qqG (hC : qr4 P C) (hH : HRel J F w H) (hr : qz7 J F w ρ a) (hp : ∀ b, b = true->qz7 J F w (ρp b) a) {o : Oper} {p : AOp} (hc : qsQ P o = some p) {ns id : Id} {x : AV} {H' : Hp} (hs : qe7 C H ρ ρp ns id p = some (x, H')) : zf3 P J F w a o x H' := by
 unfold qsQ at hc;split at hc
 ·rename_i p' _ _ _ h
  cases hc;simp only [qe7, Option.map_eq_some_iff, Prod.mk.injEq] at hs;obtain ⟨v, hv, rfl, rfl⟩ := hs;exact (zf1 hr hp h hv).does hH
 ·rename_i p' _ _ _ h
  cases hc;exact zf5 hC hH hr h hs
 ·rename_i p' _ _ _ h
  cases hc;simp only [qe7] at hs;split at hs
  ·cases hs
  ·rename_i hid
   have hid : H id = none := by cases hh : H id <;> simp_all
   simp only [Option.map_eq_some_iff, Prod.mk.injEq] at hs;obtain ⟨⟨v, b⟩, hv, rfl, rfl⟩ := hs;exact qwI hH hr h hid hv
 ·rename_i p' _ _ _ h
  cases hc;exact qwM (C := C) (ns := ns) hH hr h hs
 ·cases hc
end
def gv (env : Env) : Option (Nat × Bool)->Option Bool
 | none => some true
 | some (t, want) => match look env.l t with
  | .val (.bool b) => some (b == want)
  | .may c (.val (.bool b)) => some (c && (b == want))
  | .may false _ => some false
  | .val (.tup []) => some false
  | _ => none
def qw9 (env : Env) (dst : Option Nat) (x : AV) : Env :=
 match dst with
 | some d => if d < env.n then ⟨env.n, (d, x) :: env.l⟩ else env
 | none => env
def qaC : AOp->Bool
 | .p _ => true
 | .r (.load ..) => true
 | _ => false
def qj2 (i : AIns) (ns : Id) : Id := i.dst.getD 0 :: ns
def qv7 (C : FuncId->Con) (ns : Id) (s : St) (i : AIns) (g : Bool) : Option (AV × Hp) :=
 if (qaC i.op && i.guard.isSome) = true then
  match qe7 C s.H (fun x => unw g (evE s.env x)) (fun t x => unw (g && t) (evE s.env x)) ns (qj2 i ns) i.op with
  | some (x, _) => some (.may g x, s.H)
  | none => bif g then none else some (.val (.tup []), s.H)
 else
  bif g then qe7 C s.H (fun x => unw true (evE s.env x)) (fun t x => unw t (evE s.env x)) ns (qj2 i ns) i.op else some (.val (.tup []), s.H)
def eff (C : FuncId->Con) (ns : Id) (s : St) (i : AIns) : Option (AV × Hp) :=
 match gv s.env i.guard with
 | some g => qv7 C ns s i g
 | none => none
def step (C : FuncId->Con) (ns : Id) (s : St) (i : AIns) : Option St :=
 match eff C ns s i with
 | some (x, H) => some ⟨qw9 s.env i.dst x, H⟩
 | none => none
def run (C : FuncId->Con) (ns : Id) : List AIns->St->Option St
 | [], s => some s
 | i :: l, s => match step C ns s i with
  | some s' => run C ns l s'
  | none => none
def zn3 (P : Program) (ops : Array Oper) (o : Oper) : Option AIns :=
 match qsQ P o, o.guard with
 | some p, none => some ⟨o.dst, p, none⟩
 | some p, some (j, want) => match (ops[j]?).bind (·.dst) with
  | some d => some ⟨o.dst, p, some (d, want)⟩
  | none => none
 | none, _ => none
def qk2 (P : Program) (ops : Array Oper) : List Oper->Option (List AIns)
 | [] => some []
 | o :: l => match zn3 P ops o, qk2 P ops l with
  | some i, some m => some (i :: m)
  | _, _ => none
section
variable {P : Program} {J J0 : Id->JI} {F F0 : Nat->Prop} {w w0 : World} {H : Hp} {a : Act} {C : FuncId->Con} {s s' : St}
theorem qwN {x : AV} {v : Value} (h : VRel J F w x v) : VRel J F w (unw true x) v := by
 unfold unw;split
 ·rename_i c x
  cases c with
  | false => exact .junk _
  | true =>
   cases h with
   | may _ _ _ h _ => exact h rfl
 ·exact h
theorem orel (h : qcL J F w s.env a.tmps) : qz7 J F w (fun x => unw true (evE s.env x)) a :=
 ⟨fun x y hc => qwN (h.ev hc), fun d => rfl⟩
theorem qkT {env : Env} (h : qcL J F w env a.tmps) {x : AV} {v : Value} (hv : VRel J F w x v) (dst : Option Nat) : qcL J F w (qw9 env dst x) (a.put dst v).tmps := by
 cases dst with
 | none => exact h
 | some d =>
  simp only [qw9, Act.put];split
  ·rename_i hd
   refine ⟨by simp [h.1], fun t u h2 => ?_, fun t ht => ?_⟩
   ·simp only [Array.getElem?_setIfInBounds] at h2
    simp only [look];by_cases e : d = t
    ·subst e
     rw [if_pos rfl] at h2 ⊢;split at h2
     ·cases h2; exact hv
     ·cases h2
    ·rw [if_neg e] at h2 ⊢
     exact h.2.1 t u h2
   ·simp only [look]
    simp only at ht;rw [if_neg (by omega)];exact h.2.2 t ht
  ·rename_i hd
   have : a.tmps.setIfInBounds d v = a.tmps := by
    have : a.tmps.size<=d := by rw [← h.1]; omega
    simp [Array.setIfInBounds, Nat.not_lt.2 this]
   rw [this];exact h
theorem qkU : VRel J F w (.val (.tup [])) undef := .val _ _ (Rep.tup [] [] rfl (by simp))
theorem qoE (h : qcL J F w s.env a.tmps) {ops : Array Oper} {o : Oper} {i : AIns} (hc : zn3 P ops o = some i) {g : Bool} (hg : gv s.env i.guard = some g) : Region.wanted o (yielded ops a.tmps) = g := by
 unfold zn3 at hc;split at hc
 ·rename_i hgd
  cases hc;simp only [gv, Option.some.injEq] at hg;subst hg;simp [Region.wanted, hgd]
 ·rename_i p j want hp hgd
  split at hc
  ·rename_i d hd
   cases hc;simp only [Region.wanted, hgd, yielded, hd, Option.bind_some];simp only [gv] at hg
   have hev : ∀ {x : AV}, look s.env.l d = x->x ≠ .junk->∃ v, a.tmps[d]? = some v/\VRel J F w x v := by
    intro x hx hj
    have hlt : d < a.tmps.size := by
     rcases Nat.lt_or_ge d a.tmps.size with h1 | h1
     ·exact h1
     ·rw [h.2.2 d (by rw [h.1]; exact h1)] at hx
      exact absurd hx.symm hj
    have h2 : a.tmps[d]? = some a.tmps[d] := Array.getElem?_eq_getElem hlt
    have := h.2.1 d _ h2;rw [hx] at this;exact ⟨_, h2, this⟩
   split at hg
   ·rename_i b hb
    cases hg;obtain ⟨v, h1, h2⟩ := hev hb (by simp);rw [h1, h2.bool];simp
   ·rename_i c b hb
    cases hg;obtain ⟨v, h1, h2⟩ := hev hb (by simp);rw [h1];cases h2 with
    | may _ _ _ h2 h3 =>
     cases c with
     | true => rw [(h2 rfl).bool]; simp
     | false => rw [h3 rfl]; simp [undef]
   ·rename_i hb
    cases hg;obtain ⟨v, h1, h2⟩ := hev hb (by simp);rw [h1];cases h2 with
    | may _ _ _ h2 h3 => rw [h3 rfl]; simp [undef]
   ·rename_i hb
    cases hg;obtain ⟨v, h1, h2⟩ := hev hb (by simp);cases h2.inv_val with
    | tup _ vs hl _ =>
     have : vs = [] := List.eq_nil_of_length_eq_zero (by simpa using hl);subst this;rw [h1];simp
   ·cases hg
  ·cases hc
 ·cases hc
theorem qgT {ops : Array Oper} {o : Oper} {i : AIns} (hc : zn3 P ops o = some i) : qsQ P o = some i.op/\i.dst = o.dst/\i.guard.isSome = o.guard.isSome := by
 unfold zn3 at hc;split at hc
 ·rename_i p hp hg
  cases hc;exact ⟨hp, rfl, by rw [hg]⟩
 ·rename_i p j want hp hg
  split at hc
  ·cases hc
   exact ⟨hp, rfl, by rw [hg]; rfl⟩
  ·cases hc
 ·cases hc
def qr6 [Inhabited TabsD] (J : Id->JI) (F : Nat->Prop) (w : World) (s' : St) (a a' : Act) (w' : World) : Prop :=
 ∃ J' F', qcL J' F' w' s'.env a'.tmps/\HRel J' F' w' s'.H/\Ext J F w J' F' w'/\a'.defers = a.defers
theorem qsU {ρ : Opd->AV} {ρp : Bool->Opd->AV} {ns id : Id} {p : AOp} (hc : qaC p = true) {x : AV} {H' : Hp} (h : qe7 C H ρ ρp ns id p = some (x, H')) : H' = H := by
 unfold qaC at hc;split at hc
 ·simp only [qe7, Option.map_eq_some_iff, Prod.mk.injEq] at h
  obtain ⟨_, _, _, h⟩ := h;exact h.symm
 ·simp only [qe7, Option.map_eq_some_iff, Prod.mk.injEq] at h
  obtain ⟨_, _, _, h⟩ := h;exact h.symm
 ·cases hc
theorem qcP (hC : qr4 P C) {ns : Id} {ops : Array Oper} {o : Oper} {i : AIns} (hc : zn3 P ops o = some i) (hE : qcL J F w s.env a.tmps) (hH : HRel J F w s.H) (hs : step C ns s i = some s') :
  (Region.wanted o (yielded ops a.tmps) = true/\∀ Q, o.wp P a w (fun a' w' => qr6 J F w s' a a' w') Q) ∨
  (Region.wanted o (yielded ops a.tmps) = false/\qr6 J F w s' a (a.put o.dst undef) w) := by
 obtain ⟨hop, hdst, _⟩ := qgT hc;unfold step at hs;split at hs
 ·rename_i y H1 hs'
  simp only [Option.some.injEq] at hs;subst hs;unfold eff at hs';split at hs'
  ·rename_i g hg
   have hw := qoE hE hc hg
   have off : VRel J F w y undef->H1 = s.H->qr6 J F w ⟨qw9 s.env i.dst y, H1⟩ a (a.put o.dst undef) w := by
    intro hx he;subst he;refine ⟨J, F, ?_, hH, Ext.refl _ _ _, ?_⟩
    ·rw [← hdst]; exact qkT hE hx _
    ·cases o.dst <;> rfl
   have on : ∀ {x : AV}, qe7 C s.H (fun x => unw true (evE s.env x)) (fun t x => unw t (evE s.env x)) ns (qj2 i ns) i.op = some (x, H1)->(∀ J F w v, VRel J F w x v->VRel J F w y v) →
     ∀ Q, o.wp P a w (fun a' w' => qr6 J F w ⟨qw9 s.env i.dst y, H1⟩ a a' w') Q := by
    intro x hx hxy Q;refine Oper.wp_mono ?_ (qqG hC hH (orel hE) (fun b hb => by subst hb; exact orel hE) hop hx Q)
    rintro a' w' ⟨v, J', F', rfl, h1, h2, h3⟩;refine ⟨J', F', ?_, h2, h3, ?_⟩
    ·rw [← hdst]; exact qkT (hE.ext hH h3) (hxy _ _ _ _ h1) _
    ·cases o.dst <;> rfl
   unfold qv7 at hs';split at hs'
   ·rename_i hcalm
    simp only [Bool.and_eq_true] at hcalm;cases g with
    | true =>
     refine .inl ⟨hw, ?_⟩;split at hs'
     ·rename_i x H' hx
      simp only [Option.some.injEq, Prod.mk.injEq] at hs';have := qsU hcalm.1 hx;obtain ⟨rfl, rfl⟩ := hs';rw [this] at hx;exact on hx (fun J F w v h => .may true x v (fun _ => h) (by simp))
     ·cases hs'
    | false =>
     refine .inr ⟨hw, ?_⟩;split at hs'
     ·rename_i x H' hx
      simp only [Option.some.injEq, Prod.mk.injEq] at hs';obtain ⟨rfl, rfl⟩ := hs';exact off (.may false x _ (by simp) (fun _ => rfl)) rfl
     ·simp only [cond_false, Option.some.injEq, Prod.mk.injEq] at hs'
      obtain ⟨rfl, rfl⟩ := hs';exact off qkU rfl
   ·cases g with
    | true => exact .inl ⟨hw, on (x := y) (by simpa using hs') (fun _ _ _ _ h => h)⟩
    | false =>
     refine .inr ⟨hw, ?_⟩;simp only [cond_false, Option.some.injEq, Prod.mk.injEq] at hs';obtain ⟨rfl, rfl⟩ := hs';exact off qkU rfl
  ·cases hs'
 ·cases hs
theorem qr6.trans {s1 s2 : St} {a1 a2 : Act} {w1 w2 : World} {J1 : Id->JI} {F1 : Nat->Prop} (h1 : Ext J F w J1 F1 w1) (hd : a1.defers = a.defers) (h2 : qr6 J1 F1 w1 s2 a1 a2 w2) : qr6 J F w s2 a a2 w2 := by
 obtain ⟨J', F', h3, h4, h5, h6⟩ := h2;exact ⟨J', F', h3, h4, h1.trans h5, h6.trans hd⟩
theorem qkV (hC : qr4 P C) {ns : Id} {ops : Array Oper} {Q : Exit->Act->World->Prop} : ∀ (l : List Oper) (m : List AIns) (J : Id->JI) (F : Nat->Prop) (w : World) (a : Act) (s s' : St), qk2 P ops l = some m->qcL J F w s.env a.tmps->HRel J F w s.H →
  run C ns m s = some s'->(∀ a' w', qr6 J F w s' a a' w'->Q .normal a' w')->wpList P ops Q l a w
 | [], m, J, F, w, a, s, s', hc, hE, hH, hs, hQ => by
  cases hc;simp only [run, Option.some.injEq] at hs;subst hs;exact hQ a w ⟨J, F, hE, hH, Ext.refl _ _ _, rfl⟩
 | o :: l, m, J, F, w, a, s, s', hc, hE, hH, hs, hQ => by
  simp only [qk2] at hc;split at hc
  ·rename_i i m' hi hm
   cases hc;simp only [run] at hs;split at hs
   ·rename_i s1 hs1
    unfold wpList
    have next : ∀ a1 w1, qr6 J F w s1 a a1 w1->wpList P ops Q l a1 w1 := by
     rintro a1 w1 ⟨J1, F1, h1, h2, h3, h4⟩;exact qkV hC l m' J1 F1 w1 a1 s1 s' hm h1 h2 hs (fun a' w' h => hQ a' w' (qr6.trans (s1 := s1) h3 h4 h))
    rcases qcP hC hi hE hH hs1 with ⟨hw, h⟩ | ⟨hw, h⟩
    ·rw [if_pos hw]
     exact .inl (Oper.wp_mono next (h Q))
    ·rw [hw]
     exact next _ _ h
   ·cases hs
  ·cases hc
end
end Go.AI
