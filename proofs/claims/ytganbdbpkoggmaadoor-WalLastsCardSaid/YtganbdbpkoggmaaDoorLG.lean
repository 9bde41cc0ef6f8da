/- An abstract reading of Go code: part LG of the library. No condition. -/
import Derived.Test.YtganbdbpkoggmaaDoorLF
import Derived.Lib.ItoaNum
import Derived.Lib.Repeat
import Derived.Lib.LaidTab
import Derived.Lib.Strings
import Derived.Sort.Grow
import Derived.Deep.Draws
import Derived.LaidLaws
import Derived.Laws.RangeString
import Derived.Laws.RangeAny
import Derived.Laws.Runes
import Derived.LoopTactic
import Derived.Lib.RuneCount
import Derived.RangeFuncWrites
import Derived.RangeFuncCalls
import Derived.OrdersIn
import Derived.TacticsIn
set_option linter.unusedVariables false
set_option linter.unusedSimpArgs false
namespace Go.AI
variable {tabI : Inhabited TabsD}
open Go.Lib Go.RowKit
theorem qdZ.of_z {F : Nat->Prop} {w : World} : ∀ {ds ds' : List DV} {vs : List Value}, qdZ F w ds vs->ds'.map zA = ds.map zA->qdZ F w ds' vs := by
 intro ds ds' vs h e;have hl : ds'.length = ds.length := by simpa using congrArg List.length e
 refine ⟨h.1.trans hl.symm, fun j d v h1 h2 => ?_⟩;have hj : j < ds.length := by rw [← hl]; exact (List.getElem?_eq_some_iff.1 h1).1
 have e2 : zA d = zA ds[j] := by
  have e1 := congrArg (fun l => l[j]?) e;simp only [List.getElem?_map, h1, List.getElem?_eq_getElem hj, Option.map_some, Option.some.injEq] at e1;exact e1
 exact qoW e2.symm (h.2 j _ v (List.getElem?_eq_getElem hj) h2)
theorem qjS {P : Program} {f : FuncId} (tc : TCn) (hE : qv6 P f)
  (h : ∀ a r, tc.g a = some r->∀ (F : Nat->Prop) (w : World) (vs : List Value), qdZ F w (eaL tc.args a) vs->(∀ g, F g->g < w.heap.size)->qbK F w →
   Calls P f vs.toArray w fun e w' => ∃ v F', e = .returned v/\Rep F' w' (ebL tc.res r) v/\(∀ g, F' g->F g\/w.heap.size<=g)/\(∀ g, F' g->g < w'.heap.size)/\Grown w w') : qdF P f (qm3 tc) := by
 refine ⟨hE, fun ds r hs F w vs hr hF hT => ?_⟩;unfold qm3 at hs;split at hs
 ·rename_i hq
  have hc := Classical.choose_spec hq
  revert hs hc
  generalize Classical.choose hq = a;intro hs hc;obtain ⟨x, hx, rfl⟩ := Option.map_eq_some_iff.1 hs;exact h a x hx F w vs (hr.of_z hc) hF hT
 ·cases hs
theorem qmA {F : Nat->Prop} {w : World} {b : ByteArray} {v : Value} (h : Rep F w (.str b) v) : v = .string b := by cases h; rfl
theorem qxN {F : Nat->Prop} {w : World} {k : IntKind} {n : Int} {v : Value} (h : Rep F w (.int k n) v) : v = .int k n := by cases h; rfl
theorem qdZ.two {F : Nat->Prop} {w : World} {d d' : DV} {vs : List Value} (h : qdZ F w [d, d'] vs) : ∃ v v', vs = [v, v']/\Rep F w d v/\Rep F w d' v' := by
 match vs, h.1 with
 | [v, v'], _ => exact ⟨v, v', rfl, h.2 0 d v rfl rfl, h.2 1 d' v' rfl rfl⟩
theorem Grown.rfl' (w : World) : Grown w w := ⟨fun _ _ => rfl, Nat.le_refl _, rfl, rfl, rfl⟩
theorem Grown.grow (w : World) (k : Nat) (os : Array Obj) : Grown w (Go.Sort.grow (w.drewN k) os) :=
 ⟨fun g hg => by simp only [Go.Sort.grow, World.drewN]; rw [Array.getElem?_append_left hg], by simp [Go.Sort.grow, World.drewN], rfl, rfl, rfl⟩
theorem Grown.of_below {w w' : World} (h : Below w.heap.size w w') : Grown w w' := ⟨fun g hg => h.5 g hg, h.4, h.1, h.2, h.3⟩
def qc5 [Inhabited TabsD] (P : Program) : Prop := ∀ (F : Nat->Prop) (w : World), qbK F w->Lib.TabIs P w "internal/strconv.uint64pow10" .u64 Lib.pow10Tab
def fmtX (n : Int) : ByteArray := ⟨(Lib.itoa n).toArray⟩
def fmtG (n b : Int) : Option ByteArray := bif decide (b = 10) && (decide (-9223372036854775808<=n) && decide (n<=9223372036854775807)) then some (fmtX n) else none
def tcFmt : TCn := ⟨[.int .i64, .int .i64], [.str], fun a => fmtG a.1 a.2.1⟩
theorem fmtOk {P : Program} {f : FuncId} (hE : qv6 P f) (hT : qc5 P)
  (h : ∀ (n : Int), -9223372036854775808<=n->n<=9223372036854775807->∀ w : World, Lib.TabIs P w "internal/strconv.uint64pow10" .u64 Lib.pow10Tab →
   Calls P f #[.int .i64 n, .int .i64 10] w fun e w' => e = .returned (.string ⟨(Lib.itoa n).toArray⟩)/\∃ k os, w' = Go.Sort.grow (w.drewN k) os) : qdF P f (qm3 tcFmt) := by
 refine qjS _ hE fun a r hr F w vs hrep hF hw => ?_
 obtain ⟨n, b, ⟨⟩⟩ : Int × Int × Unit := a;have hr : (bif decide (b = 10) && (decide (-9223372036854775808<=n) && decide (n<=9223372036854775807)) then some (fmtX n) else none) = some r := hr;have hrep : qdZ F w [.int .i64 n, .int .i64 b] vs := hrep;cases hq : (decide (b = 10) && (decide (-9223372036854775808<=n) && decide (n<=9223372036854775807))) with
 | false => rw [hq] at hr; cases hr
 | true =>
  rw [hq] at hr;cases hr;simp only [Bool.and_eq_true, decide_eq_true_eq] at hq;obtain ⟨rfl, h0, h1⟩ := hq;obtain ⟨v, v', rfl, r1, r2⟩ := hrep.two;cases qxN r1;cases qxN r2;refine (h n h0 h1 w (hT F w hw)).mono fun e w' hq => ?_
  obtain ⟨rfl, k, os, rfl⟩ := hq;have hg := Grown.grow w k os;exact ⟨_, F, rfl, .str _, fun g h => .inl h, fun g h => Nat.lt_of_lt_of_le (hF g h) hg.size, hg⟩
def repX (s : ByteArray) (c : Int) : ByteArray := ⟨(Lib.repeatL s.data.toList c.toNat).toArray⟩
def repG (s : ByteArray) (c : Int) : Option ByteArray := bif decide (0<=c) && (decide (c<=9223372036854775807) && decide ((s.size : Int) * c<=140737488355328)) then some (repX s c) else none
def tcRep : TCn := ⟨[.str, .int .i64], [.str], fun a => repG a.1 a.2.1⟩
theorem repOk {P : Program} {f : FuncId} (hE : qv6 P f)
  (h0 : ∀ (s : ByteArray) (w : World), Calls P f #[.string s, .int .i64 0] w fun e w' => e = .returned (.string ⟨#[]⟩)/\w' = w)
  (h1 : ∀ (s : ByteArray) (w : World), Calls P f #[.string s, .int .i64 1] w fun e w' => e = .returned (.string s)/\w' = w)
  (he : ∀ (s : ByteArray) (c : Nat) (w : World), 2<=c->c<=9223372036854775807->s.size = 0->Calls P f #[.string s, .int .i64 c] w fun e w' => e = .returned (.string ⟨#[]⟩)/\w' = w)
  (hm : ∀ (s : ByteArray) (c : Nat) (w : World), 2<=c->c<=9223372036854775807->s.size * c<=140737488355328->0 < s.size →
   Calls P f #[.string s, .int .i64 c] w fun e w' => e = .returned (.string ⟨(Lib.repeatL s.data.toList c).toArray⟩)/\Below w.heap.size w w') : qdF P f (qm3 tcRep) := by
 refine qjS _ hE fun a r hr F w vs hrep hF hw => ?_
 obtain ⟨s, c, ⟨⟩⟩ : ByteArray × Int × Unit := a;have hr : (bif decide (0<=c) && (decide (c<=9223372036854775807) && decide ((s.size : Int) * c<=140737488355328)) then some (repX s c) else none) = some r := hr;have hrep : qdZ F w [.str s, .int .i64 c] vs := hrep;cases hq : (decide (0<=c) && (decide (c<=9223372036854775807) && decide ((s.size : Int) * c<=140737488355328))) with
 | false => rw [hq] at hr; cases hr
 | true =>
  rw [hq] at hr;cases hr;simp only [Bool.and_eq_true, decide_eq_true_eq] at hq;obtain ⟨g0, g1, g2⟩ := hq;obtain ⟨v, v', rfl, r1, r2⟩ := hrep.two;cases qmA r1;cases qxN r2;obtain ⟨n, rfl⟩ : ∃ n : Nat, c = n := ⟨c.toNat, by omega⟩
  have hfin : ∀ (r : ByteArray), r = repX s n->∀ e w', (e = Ending.returned (.string r)/\Grown w w')->∃ v F', e = .returned v/\Rep F' w' (ebL tcRep.res (repX s n)) v/\(∀ g, F' g->F g\/w.heap.size<=g)/\(∀ g, F' g->g < w'.heap.size)/\Grown w w' := by
   rintro r rfl e w' ⟨rfl, hg⟩;exact ⟨_, F, rfl, .str _, fun g h => .inl h, fun g h => Nat.lt_of_lt_of_le (hF g h) hg.size, hg⟩
  have hx : repX s n = ⟨(Lib.repeatL s.data.toList n).toArray⟩ := by unfold repX; rw [Int.toNat_natCast]
  have hnil : s.size = 0->s.data.toList = [] := fun h => by
   exact List.eq_nil_of_length_eq_zero (by rw [Array.length_toList]; exact h)
  by_cases h2 : 2<=n
  ·by_cases hs : s.size = 0
   ·refine (he s n w h2 (by omega) hs).mono fun e w' hq => hfin _ ?_ e w' ⟨hq.1, hq.2 ▸ Grown.rfl' w⟩
    rw [hx, hnil hs, Lib.repeatL_nil]
   ·have h3 : s.size * n<=140737488355328 := by
     have h3 : ((s.size * n : Nat) : Int)<=140737488355328 := by rw [Int.natCast_mul]; exact g2
     generalize s.size * n = m at h3 ⊢;omega
    refine (hm s n w h2 (by omega) h3 (by omega)).mono fun e w' hq => hfin _ hx.symm e w' ⟨hq.1, .of_below hq.2⟩
  ·have : n = 0\/n = 1 := by omega
   rcases this with rfl | rfl
   ·refine (h0 s w).mono fun e w' hq => hfin _ ?_ e w' ⟨hq.1, hq.2 ▸ Grown.rfl' w⟩
    rw [hx]; rfl
   ·refine (h1 s w).mono fun e w' hq => hfin _ ?_ e w' ⟨hq.1, hq.2 ▸ Grown.rfl' w⟩
    rw [hx, Lib.repeatL_one]
def qmB (s p : ByteArray) : ByteArray := ⟨(Lib.trimPrefix s.data.toList p.data.toList).toArray⟩
def hasX (s p : ByteArray) : Bool := Lib.hasPrefix s.data.toList p.data.toList
def zu6 : TCn := ⟨[.str, .str], [.str, .bool], fun a => some (qmB a.1 a.2.1, hasX a.1 a.2.1, ())⟩
theorem cutpOk {P : Program} {f : FuncId} (hE : qv6 P f)
  (h : ∀ (s p : ByteArray) (w : World), Calls P f #[.string s, .string p] w fun e w' => e = .returned (.tuple #[.string ⟨(Lib.trimPrefix s.data.toList p.data.toList).toArray⟩, .bool (Lib.hasPrefix s.data.toList p.data.toList)])/\w' = w) : qdF P f (qm3 zu6) := by
 refine qjS _ hE fun a r hr F w vs hrep hF hw => ?_
 obtain ⟨s, p, ⟨⟩⟩ : ByteArray × ByteArray × Unit := a;have hr : some (qmB s p, hasX s p, ()) = some r := hr;cases hr;have hrep : qdZ F w [.str s, .str p] vs := hrep;obtain ⟨v, v', rfl, r1, r2⟩ := hrep.two;cases qmA r1;cases qmA r2;refine (h s p w).mono fun e w' hq => ?_
 obtain ⟨rfl, rfl⟩ := hq;refine ⟨_, F, rfl, ?_, fun g h => .inl h, hF, Grown.rfl' w'⟩;refine .tup [.str (qmB s p), .bool (hasX s p)] _ rfl (fun j d v h1 h2 => ?_)
 match j with
 | 0 => simp at h1 h2; subst h1 h2; exact .str _
 | 1 => simp at h1 h2; subst h1 h2; exact .bool _
 | j + 2 => simp at h1
end Go.AI
namespace Go.AI
open Go.Lib Go.RowKit
abbrev tabsOf (W : World) (gs : List Nat) : Inhabited TabsD := ⟨⟨gs.filterMap fun g => (W.heap[g]?).map fun o => (g, o)⟩⟩
theorem tabOk_of (W : World) (gs : List Nat) : @qbK (tabsOf W gs) (fun g => g < W.heap.size) W := by
 intro p hp;have hp : p ∈ gs.filterMap fun g => (W.heap[g]?).map fun o => (g, o) := hp
 obtain ⟨g, _, h⟩ := List.mem_filterMap.1 hp;obtain ⟨o, ho, rfl⟩ := Option.map_eq_some_iff.1 h;exact ⟨(Array.getElem?_eq_some_iff.1 ho).1, ho⟩
theorem tab_heap {W w : World} {gs : List Nat} {F : Nat->Prop} (h : @qbK (tabsOf W gs) F w) {g : Nat} (hg : g ∈ gs) {o : Obj} (ho : W.heap[g]? = some o) : w.heap[g]? = some o :=
 (h (g, o) (List.mem_filterMap.2 ⟨g, hg, by rw [ho]; rfl⟩)).2
theorem zc0 {P : Program} {w : World} {name : String} {d : DataW Unit} : ∀ {laid : List (String × DataW Unit)} {ps : List MemPlace}, DataW.LaidVars P w laid ps->(name, d) ∈ laid →
  ∃ g t cs fuel p, P.globalNamed name = some g/\(P.globals[g]?).map (·.type) = some t/\w.var? P name = some cs/\DataW.trod (fun _ => ()) P w 0 (fun _ => true) false fuel t cs.toList = some (d, p)
 | [], _, _, h => by cases h
 | (n, d') :: r, ps, hl, h => by
  obtain ⟨g, t, cs, fuel, p, q, h1, h2, h3, h4, h5, _⟩ := hl;rcases List.mem_cons.1 h with h | h
  ·cases h
   exact ⟨g, t, cs, fuel, p, h1, h2, h3, h4⟩
  ·exact zc0 h5 h
theorem tabIs_of_mem {P : Program} {W : World} {name : String} {k : IntKind} {zs : List Int} {laid : List (String × DataW Unit)} {g : Nat} {t e : TypeId} {n : Nat}
  (hg : P.globalNamed name = some g) (hty : (P.globals[g]?).map (·.type) = some t) (ht : P.underlying t = some (.array n e)) (he : P.underlying e = some (.int k)) (hce : P.cellsOf e = 1) (hct : P.cellsOf t = n)
  (hm : (name, tabData k zs) ∈ laid) (h : laidMet P laid W) : TabIs P W name k zs := by
 obtain ⟨ps, hl, _⟩ := h;obtain ⟨g', t', cs, fuel, p, hg', ht', hvar, hd⟩ := zc0 hl hm;obtain rfl := Option.some.inj (hg.symm.trans hg');obtain rfl := Option.some.inj (hty.symm.trans ht');unfold TabIs;rw [hvar, ← cells_of_tab ht he hce hct hd]
theorem zi3 {P : Program} {W w : World} {name : String} {k : IntKind} {zs : List Int} {g : Nat} {gs : List Nat} {F : Nat->Prop} (hg : P.globalNamed name = some g) (h : TabIs P W name k zs) (hm : g ∈ gs) (hw : @qbK (tabsOf W gs) F w) : TabIs P w name k zs := by
 unfold TabIs World.var? at h ⊢;rw [hg] at h ⊢;simp only [Option.bind_some] at h ⊢;cases ho : W.heap[g]? with
 | none => rw [ho] at h; cases h
 | some o => rw [ho] at h; rw [tab_heap hw hm ho]; exact h
theorem powTab_of {P : Program} {W : World} {gs : List Nat} {g : Nat} (hg : P.globalNamed "internal/strconv.uint64pow10" = some g) (h : TabIs P W "internal/strconv.uint64pow10" .u64 pow10Tab) (hm : g ∈ gs) : @qc5 (tabsOf W gs) P :=
 fun _ _ hw => zi3 hg h hm hw
end Go.AI
namespace Go.AI
variable {tabI : Inhabited TabsD}
open Go.Lib Go.RowKit
def qxO (ti ts tb tt tr t0 : TypeId) (fc fn : FuncId) : Code := (.seq (.region 0 #[(.mk (some 2) (.assign (.const (.int .i64 0))) ti "wal.go:24" #[] none)] false) (.seq (.region 1 #[(.mk (some 9) (.move (.tmp 0)) ts "wal.go:25" #[] none), (.mk (some 10) (.call (.mk (.value (.func fc)) #[(.tmp 9), (.const (.string ⟨#[108, 111, 103, 46]⟩))] #[ts, ts])) tt "wal.go:25" #[(.mk 0 .data)] none), (.mk (some 8) (.move (.tmp 10)) tt "wal.go:25" #[(.mk 1 .data)] none), (.mk (some 11) (.extract (.tmp 8) 0) ts "wal.go:25" #[(.mk 2 .data)] none), (.mk (some 12) (.extract (.tmp 8) 1) tb "wal.go:25" #[(.mk 2 .data), (.mk 5 (.gcOnly .lateStores))] none), (.mk (some 3) (.assign (.tmp 11)) ts "wal.go:25" #[(.mk 3 .data), (.mk 1 .chain), (.mk 0 .phase), (.mk 1 .phase), (.mk 2 .phase), (.mk 3 .phase), (.mk 4 (.textOnly .lateStores))] none), (.mk (some 4) (.assign (.tmp 12)) tb "wal.go:25" #[(.mk 4 .data), (.mk 5 .chain), (.mk 0 .phase), (.mk 1 .phase), (.mk 2 .phase), (.mk 3 .phase), (.mk 4 .phase), (.mk 5 .phase)] none)] false) (.seq (.seq (.region 2 #[(.mk (some 13) (.move (.tmp 4)) tb "wal.go:26" #[] none), (.mk (some 14) (.unOp .not tb (.tmp 13)) tb "wal.go:26" #[(.mk 0 .data)] none)] false) (.cond (.tmp 14) (.seq (.region 3 #[(.mk (some 2) (.assign (.const (.int .i64 0))) ti "wal.go:27" #[] none)] false) .ret) .skip)) (.seq (.region 4 #[(.mk (some 5) (.assign (.const (.int .i64 0))) ti "wal.go:29" #[] none)] false) (.seq (.seq (.region 5 #[(.mk (some 15) (.move (.tmp 3)) ts "wal.go:30" #[] none), (.mk (some 16) (.range ts (.tmp 15)) t0 "wal.go:30" #[(.mk 0 .data)] none)] false) (.block 0 (.loop (.seq (.region 6 #[(.mk (some 17) (.next (.tmp 16) true) t0 "wal.go:30" #[] none), (.mk (some 18) (.extract (.tmp 17) 0) tb "wal.go:30" #[(.mk 0 .data)] none)] false) (.seq (.cond (.tmp 18) .skip (.exit 0)) (.block 1 (.seq (.region 7 #[(.mk (some 19) (.extract (.tmp 17) 2) tr "wal.go:30" #[] none), (.mk (some 7) (.assign (.tmp 19)) tr "wal.go:30" #[(.mk 0 .data), (.mk 0 .phase)] none)] false) (.region 8 #[(.mk (some 20) (.move (.tmp 5)) ti "wal.go:31" #[] none), (.mk (some 21) (.binOp .mul ti (.tmp 20) (.const (.int .i64 10)) ti) ti "wal.go:31" #[(.mk 0 .data)] none), (.mk (some 22) (.move (.tmp 7)) tr "wal.go:31" #[] none), (.mk (some 23) (.binOp .sub tr (.tmp 22) (.const (.int .i32 48)) tr) tr "wal.go:31" #[(.mk 2 .data)] none), (.mk (some 24) (.convert tr ti (.tmp 23)) ti "wal.go:31" #[(.mk 3 .data)] none), (.mk (some 25) (.binOp .add ti (.tmp 21) (.tmp 24) ti) ti "wal.go:31" #[(.mk 1 .data), (.mk 4 .data)] none), (.mk (some 5) (.assign (.tmp 25)) ti "wal.go:31" #[(.mk 5 .data), (.mk 0 .phase), (.mk 1 .phase), (.mk 2 .phase), (.mk 3 .phase), (.mk 4 .phase), (.mk 5 .phase)] none)] false)))))))) (.seq (.seq (.region 9 #[(.mk (some 26) (.move (.tmp 5)) ti "wal.go:33" #[] none), (.mk (some 27) (.call (.mk (.value (.func fn)) #[(.tmp 26)] #[ti])) ts "wal.go:33" #[(.mk 0 .data)] none), (.mk (some 28) (.move (.tmp 0)) ts "wal.go:33" #[] none), (.mk (some 29) (.binOp .neq ts (.tmp 27) (.tmp 28) ts) tb "wal.go:33" #[(.mk 1 .data), (.mk 2 .data)] none)] false) (.cond (.tmp 29) (.seq (.region 10 #[(.mk (some 2) (.assign (.const (.int .i64 0))) ti "wal.go:34" #[] none)] false) .ret) .skip)) (.seq (.region 11 #[(.mk (some 30) (.move (.tmp 5)) ti "wal.go:36" #[] none), (.mk (some 2) (.assign (.tmp 30)) ti "wal.go:36" #[(.mk 0 .data), (.mk 0 .phase)] none)] false) .ret)))))))
theorem Grown.iter (w : World) (s : ByteArray) (pos : Nat) : Grown w (w.iter s pos) :=
 ⟨fun g hg => by show (w.heap.push _)[g]? = _; rw [Array.getElem?_push_lt hg, Array.getElem?_eq_getElem hg], by show _<=(w.heap.push _).size; rw [Array.size_push]; omega, rfl, rfl, rfl⟩
theorem Grown.trans {a b c : World} (h : Grown a b) (k : Grown b c) : Grown a c :=
 ⟨fun g hg => (k.heap g (Nat.lt_of_lt_of_le hg h.size)).trans (h.heap g hg), Nat.le_trans h.size k.size, k.os.trans h.os, k.tape.trans h.tape, k.output.trans h.output⟩
def qbY (s : ByteArray) : Nat->Nat->Int->Int
 | 0, _, n => n
 | b + 1, pos, n => if pos < s.size then qbY s b (pos + (Utf8.decode s pos).2) (wrap64 (wrap64 (n * 10) + wrap64 (wrap32 ((Utf8.decode s pos).1 - 48)))) else n
theorem qxP (s : ByteArray) : ∀ (b pos : Nat) (n : Int), ¬ pos < s.size->qbY s b pos n = n
 | 0, _, _, _ => rfl
 | b + 1, pos, n, h => by simp [qbY, h]
def zi4 (s : ByteArray) : Int := qbY s s.size 0 0
set_option maxHeartbeats 4000000 in
set_option maxRecDepth 100000 in
theorem qxQ {P : Program} {f fc fn : FuncId} {ti ts tb tt tr t0 : TypeId} {fu : Func} (hf : P.funcs[f]? = some fu) (hnt : fu.ntmps = 31) (hres : fu.results = #[.tmp 2]) (hb : fu.body = some (qxO ti ts tb tt tr t0 fc fn))
  (uti : P.underlying ti = some (.int .i64)) (uts : P.underlying ts = some .string) (utb : P.underlying tb = some .bool) (utr : P.underlying tr = some (.int .i32))
  (s rest : ByteArray) (has : Bool) (hcut : ∀ w, Calls P fc #[.string s, .string ⟨#[108, 111, 103, 46]⟩] w fun e w' => e = .returned (.tuple #[.string rest, .bool has])/\w' = w)
  (ec : ∀ args w, (callFunc fc args).run P w = .ok (.enter fc args) w) (en : ∀ args w, (callFunc fn args).run P w = .ok (.enter fn args) w) (w : World)
  {r : ByteArray} (hname : has = true->∀ w1, Grown w w1->Calls P fn #[.int .i64 (zi4 rest)] w1 fun e w' => e = .returned (.string r)/\Grown w1 w') :
  Calls P f #[.string s] w fun e w' => e = .returned (.int .i64 (bif has then (bif r.toList == s.toList then zi4 rest else 0) else 0))/\Grown w w' := by
 have ui : ∀ w, Sem.run P (underlying ti) w = .ok (TypeDesc.int .i64) w := run_underlying uti;have us : ∀ w, Sem.run P (underlying ts) w = .ok TypeDesc.string w := run_underlying uts;have ub : ∀ w, Sem.run P (underlying tb) w = .ok TypeDesc.bool w := run_underlying utb;have ur : ∀ w, Sem.run P (underlying tr) w = .ok (TypeDesc.int .i32) w := run_underlying utr;refine calls_of_wp hf hb ?_
 rw [hnt];simp only [List.size_toArray, List.length_cons, List.length_nil, Nat.reduceAdd, Nat.reduceSub, Array.replicate_succ, Array.replicate_zero, List.push_toArray, List.append_toArray, List.nil_append, List.cons_append];unfold qxO;cases has with
 | false =>
  go_wp2_with (go_at_fn fc; refine (hcut _).mono ?_; rintro e w' ⟨rfl, hw⟩; rw [hw])
  exact qo0 hres rfl ⟨rfl, Grown.rfl' _⟩
 | true =>
  go_wp2_with (go_at_fn fc; refine (hcut _).mono ?_; rintro e w' ⟨rfl, hw⟩; rw [hw])
  go_loopw [5] (fun v w' => ∃ (pos b : Nat) (n : Int), w' = w.iter rest pos/\v = .int .i64 n/\Hid (qbY rest b pos n = zi4 rest)/\rest.size<=pos + b) (fun _ w' => rest.size - w'.iterPos w.heap.size)
  case atStart => exact ⟨0, rest.size, 0, rfl, rfl, rfl, by omega⟩
  case round =>
   obtain ⟨pos, b, n, rfl, rfl, HS, hb⟩ := hrel;by_cases hp : pos < rest.size
   ·have hnx : ∀ ty, (Instr.next (.pointer (some ⟨w.heap.size, 0, none⟩)) true ty).run P (w.iter rest pos) = _ := fun ty => run_next_any w rest pos ty hp
    have hwd := Lib.decode_width_pos rest pos hp
    go_wp2
    go_roundw
    case rel =>
     cases b with
     | zero => omega
     | succ b =>
      refine ⟨_, b, _, rfl, rfl, ?_, by omega⟩;have h2 := HS.out;simp only [qbY, if_pos hp] at h2;exact h2
    case measure =>
     simp;omega
   ·have hnx : ∀ ty, (Instr.next (.pointer (some ⟨w.heap.size, 0, none⟩)) true ty).run P (w.iter rest pos) = _ := fun ty => run_next_end w rest pos ty hp
    have hn : n = zi4 rest := by have h2 := HS.out; rwa [qxP rest b pos n hp] at h2
    subst hn;have hgi := Grown.iter w rest pos
    go_wp2_with (go_at_fn fn; refine (hname trivial _ hgi).mono ?_; rintro e w' ⟨rfl, hg⟩)
    ·have h3 : (r.toList == s.toList) = false := by simpa using ‹(!r.toList == s.toList) = true›
     rw [h3];exact qo0 hres rfl ⟨rfl, hgi.trans hg⟩
    ·have h3 : (r.toList == s.toList) = true := by simpa using ‹(!r.toList == s.toList) = false›
     rw [h3];exact qo0 hres rfl ⟨rfl, hgi.trans hg⟩
def qxR : ByteArray := ⟨#[108, 111, 103, 46]⟩
def numG (name : Int × Unit->Option ByteArray) (s : ByteArray) : Option Int :=
 bif hasX s qxR then (name (zi4 (qmB s qxR), ())).bind fun r => some (bif r.toList == s.toList then zi4 (qmB s qxR) else 0) else some 0
def tcNum (name : Int × Unit->Option ByteArray) : TCn := ⟨[.str], [.int .i64], fun a => numG name a.1⟩
def numIs (P : Program) (f : FuncId) (ti ts tb tt tr t0 : TypeId) (fc fn : FuncId) : Prop := qnL P f 31 2 (qxO ti ts tb tt tr t0 fc fn)
theorem numberOk {P : Program} {f fc fn : FuncId} {ti ts tb tt tr t0 : TypeId} {name : Int × Unit->Option ByteArray} (hfn : numIs P f ti ts tb tt tr t0 fc fn)
  (uti : P.underlying ti = some (.int .i64)) (uts : P.underlying ts = some .string) (utb : P.underlying tb = some .bool) (utr : P.underlying tr = some (.int .i32))
  (hcut : ∀ (s p : ByteArray) (w : World), Calls P fc #[.string s, .string p] w fun e w' => e = .returned (.tuple #[.string ⟨(Lib.trimPrefix s.data.toList p.data.toList).toArray⟩, .bool (Lib.hasPrefix s.data.toList p.data.toList)])/\w' = w)
  (hname : qdF P fn (qm3 ⟨[.int .i64], [.str], name⟩))
  (ec : qv6 P fc) (en : qv6 P fn) : qdF P f (qm3 (tcNum name)) := by
 obtain ⟨fu, hf, hnt, hres, hb, hent⟩ := qn8 hfn;refine qjS _ hent fun a r hr F w vs hrep hF hw => ?_
 obtain ⟨s, ⟨⟩⟩ : ByteArray × Unit := a;have hr : numG name s = some r := hr;have hrep : qdZ F w [.str s] vs := hrep
 obtain ⟨v, rfl, r1⟩ : ∃ v, vs = [v]/\Rep F w (.str s) v := by
  match vs, hrep.1 with
  | [v], _ => exact ⟨v, rfl, hrep.2 0 _ v rfl rfl⟩
 cases qmA r1
 have hname2 : ∀ n q, name (n, ()) = some q->∀ w1, Grown w w1->Calls P fn #[.int .i64 n] w1 fun e w' => e = .returned (.string q)/\Grown w1 w' := by
  intro n q hq w1 hg
  have hsp : qm3 ⟨[.int .i64], [.str], name⟩ [.int .i64 n] = some (.str q) := by
   have h1 := qw1 ⟨[.int .i64], [.str], name⟩ (n, ()) (ds := [.int .i64 n]) rfl;rw [h1];show (name (n, ())).map _ = _;rw [hq]; rfl
  refine (hname.2 _ _ hsp F w1 [.int .i64 n] ⟨rfl, fun j d v h1 h2 => ?_⟩ (fun g h => Nat.lt_of_lt_of_le (hF g h) hg.size) (hw.mono (fun _ h => h) (fun g h => hg.heap g (hF g h)))).mono ?_
  ·match j with
   | 0 => simp at h1 h2; subst h1 h2; exact .int _ _
   | j + 1 => simp at h1
  ·rintro e w' ⟨v, F', rfl, hv, _, _, hg2⟩
   cases qmA hv;exact ⟨rfl, hg2⟩
 have hX : ∀ (has : Bool), hasX s qxR = has->∀ q, (has = true->name (zi4 (qmB s qxR), ()) = some q)->Calls P f #[.string s] w fun e w' => e = .returned (.int .i64 (bif has then (bif q.toList == s.toList then zi4 (qmB s qxR) else 0) else 0))/\Grown w w' := by
  intro has hhas q hq;subst hhas;exact qxQ hf hnt hres hb uti uts utb utr s _ _ (fun w => hcut s qxR w) (fun args w => qo7 ec args) (fun args w => qo7 en args) w (fun h w1 hg => hname2 _ _ (hq h) w1 hg)
 unfold numG at hr;cases hh : hasX s qxR with
 | false =>
  rw [hh] at hr;cases hr;refine (hX false hh ByteArray.empty (fun h => by cases h)).mono ?_
  rintro e w' ⟨rfl, hg⟩;exact ⟨_, F, rfl, .int _ _, fun g h => .inl h, fun g h => Nat.lt_of_lt_of_le (hF g h) hg.size, hg⟩
 | true =>
  rw [hh] at hr;simp only [cond_true] at hr;cases hq : name (zi4 (qmB s qxR), ()) with
  | none => rw [hq] at hr; cases hr
  | some q =>
   rw [hq] at hr;cases hr;refine (hX true hh q (fun _ => hq)).mono ?_
   rintro e w' ⟨rfl, hg⟩;exact ⟨_, F, rfl, .int _ _, fun g h => .inl h, fun g h => Nat.lt_of_lt_of_le (hF g h) hg.size, hg⟩
open Go.Lib Go.RowKit
section
variable {P : Program}
theorem qpF {o : Oper} (hd : ∀ c, o.op ≠ .defer c) {l n : Nat} {K : Act->World->Prop} {Q : Exit->Act->World->Prop} {a : Act} {w : World} (h : o.wp P a w K Q) : o.wpIn (Fence.wide.inRound l) n P a w K Q := by
 refine ⟨fun _ _ => trivial, ?_⟩;rw [show (Fence.wide.inRound l).round = some l from rfl, Oper.semAt_some l _ o hd];unfold Oper.wp at h;generalize (execOp a.eval o).run P w = r at h;cases r with
 | ok x w' =>
  cases x with
  | enter f args => exact ⟨(fun q => by cases q), CallsIn.inRound l ((callsIn_wide (n := n - 1)).2 h)⟩
  | row r args =>
   refine ⟨(fun q => by cases q), ?_⟩;intro c cs _;obtain ⟨v, w', q, s⟩ := h c cs;exact ⟨v, w', q, (StepsIn.of_steps s).mono fun m _ => fenced_wide P m⟩
  | round => exact absurd h (fun h => h)
  | _ => exact h
 | halt x w' => cases x <;> exact h
theorem zu7 {ops : Array Oper} (hd : ∀ (i : Nat) o, ops[i]? = some o->∀ c, o.op ≠ .defer c) {l n i : Nat} {K K' : Act->World->Prop} {Q : Exit->Act->World->Prop} (hQ : ¬ LetsOut Q) {a : Act} {w : World} (hK : ∀ a w, K a w->K' a w)
  (h : wpOp P ops Q i K a w) : wpOpIn (Fence.wide.inRound l) n P ops Q i K' a w := by
 unfold wpOp at h;unfold wpOpIn;cases ho : ops[i]? with
 | none => rw [ho] at h; exact hK _ _ h
 | some o =>
  rw [ho] at h;simp only at h ⊢;split at h
  ·rename_i hw
   rw [if_pos hw];rcases h with h | h
   ·exact qpF (hd i o ho) (Oper.wp_mono hK h)
   ·exact absurd h.2 hQ
  ·rename_i hw
   rw [if_neg hw];exact ⟨fun _ _ => trivial, hK _ _ h⟩
theorem qpG {ops : Array Oper} (hd : ∀ (i : Nat) o, ops[i]? = some o->∀ c, o.op ≠ .defer c) {md : Region.Mode} {l n : Nat} {Q : Exit->Act->World->Prop} (hQ : ¬ LetsOut Q) : ∀ (fuel : Nat) (listed : Array Bool) (a : Act) (w : World),
  wpAny P md ops Q fuel listed a w->wpAnyIn (Fence.wide.inRound l) n P md ops Q fuel listed a w
 | 0, _, _, _, h => h
 | fuel + 1, listed, a, w, h => ⟨h.1, fun i hi => zu7 hd hQ (fun a w h => qpG hd hQ fuel _ a w h) (h.2 i hi)⟩
theorem qmC {ops : Array Oper} {l n : Nat} {Q : Exit->Act->World->Prop} (hQ : ¬ LetsOut Q) : ∀ (L : List Oper), (∀ o ∈ L, ∀ c, o.op ≠ .defer c)->∀ (a : Act) (w : World), wpList P ops Q L a w->wpListIn (Fence.wide.inRound l) n P ops Q L a w
 | [], _, _, _, h => h
 | o :: L, hd, a, w, h => by
  unfold wpList at h;unfold wpListIn;have ih := qmC hQ L (fun o ho => hd o (List.mem_cons_of_mem _ ho)) (n := n) (l := l) (ops := ops);split at h
  ·rename_i hw
   rw [if_pos hw];rcases h with h | h
   ·exact qpF (hd o List.mem_cons_self) (Oper.wp_mono (fun a w h => ih a w h) h)
   ·exact absurd h.2 hQ
  ·rename_i hw
   rw [if_neg hw];exact ⟨fun _ _ => trivial, ih _ _ h⟩
end
structure InvP (L : List (Nat × Nat)) (EL : List Nat) (ids : Nat->Id) (t c d : Nat) (s : St) : Prop where
 b : InvB L EL ids s
 here : look s.env.l t = .box (ids c) 0
 cell : s.H (ids c) = some (.box [.box (ids d) 0])
 has : qe6 (s.H (ids d)) = true
def isLP (r : Rgn) (t d : Nat) (i : AIns) : Bool := match i.op, i.dst, i.guard with
 | .r (.load 1 false (.t x)), some y, none => Nat.beq x t && lk r.L y == some d && !(r.EL.contains y)
 | _, _, _ => false
def okP (r : Rgn) (t d : Nat) (i : AIns) : Bool :=
 (match i.dst with
  | some x => !(Nat.beq x t)
  | none => true) && (isLP r t d i || (okB r.L r.EL r.AL i && (qkZ r.S r.LB i.op || (match i.op with
  | .w (.store _ (.t y) _) => lk r.L y == some d
  | _ => false))))
theorem InvP.step {C : FuncId->Con} {ns : Id} {r : Rgn} {t c d : Nat} {ids : Nat->Id} {s s' : St} {i : AIns} (hok : okP r t d i = true) (hAL : ∀ x ∈ r.AL, ids x = x :: ns) (hcd : ids c ≠ ids d) (hI : InvP r.L r.EL ids t c d s)
  (h : AI.step (qm0 r.S r.LB C) ns s i = some s') : InvP r.L r.EL ids t c d s' := by
 obtain ⟨x, H1, he, rfl⟩ := qaE h;unfold okP at hok;rw [Bool.and_eq_true, Bool.or_eq_true] at hok;obtain ⟨hdst, hok⟩ := hok
 have hat : look (qw9 s.env i.dst x).l t = .box (ids c) 0 := by
  rw [qt2];split
  ·rename_i hd
   rw [hd.1] at hdst;simp at hdst
  ·exact hI.here
 rcases hok with hok | hok
 ·unfold isLP at hok
  split at hok
  ·rename_i y y' ho hd hg
   simp only [Bool.and_eq_true, Bool.not_eq_true'] at hok;obtain ⟨⟨hx, hl⟩, hel⟩ := hok;obtain rfl := qb2 hx;have he2 : eff (qm0 r.S r.LB C) ns ⟨s.env, s.H⟩ i = some (x, H1) := he;rw [qzJ ho, hg, hI.here] at he2
   have hld : qk1 s.H 1 false (unw true (.box (ids c) 0)) = some (.box (ids d) 0) := by
    simp [qk1, unw, hI.cell]
   simp only [zf8, gv] at he2;rw [hld] at he2
   have he3 : x = .box (ids d) 0/\H1 = s.H := by
    have he2 : some (AV.box (ids d) 0, s.H) = some (x, H1) := he2;cases he2;exact ⟨rfl, rfl⟩
   obtain ⟨rfl, rfl⟩ := he3;refine ⟨⟨fun u e hu => ?_, fun u hu => ?_⟩, hat, hI.cell, hI.has⟩
   ·rw [qt2]
    split
    ·rename_i hq
     rw [hd] at hq;obtain rfl := Option.some.inj hq.1;rw [hu] at hl;obtain rfl : e = d := by simpa using hl
     exact ⟨rfl, hI.has⟩
    ·exact hI.b.cl u e hu
   ·rw [qt2]
    split
    ·rename_i hq
     rw [hd] at hq;obtain rfl := Option.some.inj hq.1;rw [hu] at hel;cases hel
    ·exact hI.b.el u hu
  ·cases hok
 ·rw [Bool.and_eq_true, Bool.or_eq_true] at hok
  obtain ⟨hokb, hok⟩ := hok;refine ⟨InvB.step hokb hAL hI.b h, hat, ?_, qoJ he hI.has⟩;have hbc : qe6 (s.H (ids c)) = true := by rw [hI.cell]; rfl
  rcases hok with hok | hok
  ·show H1 (ids c) = _
   rw [qqM hok he hbc];exact hI.cell
  ·split at hok
   ·rename_i n y v ho
    have hl : lk r.L y = some d := by simpa using hok
    show H1 (ids c) = _;rw [(qfL ho hl hI.b he).1 _ hcd];exact hI.cell
   ·cases hok
def qxS (ops : Array Oper) (m : List AIns) (r : Rgn) (t d : Nat) : Bool :=
 m.all (okP r t d) && (List.range m.length).all fun i => (match ops[i]? with
  | some o => o.after.all fun e => !Region.binds .any e || decide (e.on < i)
  | none => false) && (List.range i).all fun k => ((qx9 ops.toList []).getD i 0).testBit k || (match m[k]?, m[i]? with
  | some x, some y => qlB r x y
  | _, _ => false)
def noDef (ops : Array Oper) : Bool := ops.toList.all fun o => match o.op with
 | .defer _ => false
 | _ => true
theorem zc1 {ops : Array Oper} (h : noDef ops = true) : ∀ o ∈ ops.toList, ∀ c, o.op ≠ .defer c := by
 intro o ho c e;have := List.all_eq_true.1 h o ho;rw [e] at this;cases this
theorem zu8 {ops : Array Oper} (h : noDef ops = true) : ∀ (i : Nat) o, ops[i]? = some o->∀ c, o.op ≠ .defer c := fun i o ho => zc1 h o (by
 have := (Array.getElem?_eq_some_iff.1 ho).2;rw [← this];simp)
section
variable {P : Program} {C : FuncId->Con} {J : Id->JI} {F : Nat->Prop} {w : World} {a : Act}
theorem zu9 (hC : qr4 P C) {ns : Id} {ops : Array Oper} {m : List AIns} (hm : qk2 P ops ops.toList = some m) (hnd : noDef ops = true) {id l n : Nat} {s s' : St} (hE : qcL J F w s.env a.tmps) (hH : HRel J F w s.H) (hs : run C ns m s = some s')
  {Q : Exit->Act->World->Prop} (hQ : ∀ a' w', qr6 J F w s' a a' w'->Q .normal a' w') : (Code.region id ops false).wpIn (Fence.wide.inRound l) n P Q a w := by
 refine Go.wpIn_mono (Q := fun e a w => e = .normal/\Q .normal a w) (wpIn_region_list (qmC (fun ⟨_, _, h⟩ => by cases h.1) _ (zc1 hnd) a w (qkV hC ops.toList m J F w a s s' hm hE hH hs fun a' w' h => ⟨rfl, hQ a' w' h⟩))) ?_
 rintro e a w ⟨rfl, h⟩;exact h
theorem draw_in (hC : qr4 P C) {ns : Id} {ops : Array Oper} {m : List AIns} (hm : qk2 P ops ops.toList = some m) (hmix : P.follows .mixedOrders = true) (hnd : noDef ops = true) {r : Rgn} {t c d : Nat} (hok : qxS ops m r t d = true) {ids : Nat->Id}
  (hAL : ∀ x ∈ r.AL, ids x = x :: ns) (hcd : ids c ≠ ids d) (hn : ∀ p ∈ r.needs, ids p.1 ≠ ids p.2) (hLB : ∀ p ∈ r.LB, C p.1 = .shared (qc7 p.2)) {id l n : Nat} {s s' : St} (hE : qcL J F w s.env a.tmps) (hH : HRel J F w s.H)
  (hI : InvP r.L r.EL ids t c d s) (hs : run (qm0 r.S r.LB C) ns m s = some s')
  {Q : Exit->Act->World->Prop} (hQ : ∀ a' w' s'', Eqv s'' s'->qr6 J F { w with drawn := w.drawn + 1 } s'' a a' w'->Q .normal a' w') : (Code.region id ops true).wpIn (Fence.wide.inRound l) n P Q a w := by
 have hl : left m (Array.replicate ops.size false) (List.range m.length) = m := qzR hm;have hH1 : HRel J F { w with drawn := w.drawn + 1 } s.H := hH.drew;have hE1 : qcL J F { w with drawn := w.drawn + 1 } s.env a.tmps := hE.ext hH (qh9 J F w);unfold qxS at hok;rw [Bool.and_eq_true] at hok
 refine Go.wpIn_mono (Q := fun e a w => e = .normal/\Q .normal a w) (wpIn_region_any hmix (qpG (zu8 hnd) (fun ⟨_, _, h⟩ => by cases h.1) _ _ _ _ (qgV (ns := ns) (zn7 hC hLB) hm (InvP r.L r.EL ids t c d) (fun i hi s s' h1 h2 => InvP.step (List.all_eq_true.1 hok.1 i hi) hAL hcd h1 h2)
  (fun {i o} => qlC hm (f := fun _ i => (List.range i).all fun k => ((qx9 ops.toList []).getD i 0).testBit k || (match m[k]?, m[i]? with
   | some x, some y => qlB r x y
   | _, _ => false)) hok.2 (i := i) (o := o)) (fun hki hy hx => (qeF hm (g := fun x y => qlB r x y) hok.2 hki hy hx).imp (fun h => h) (fun h s s1 s2 hi => qdO.of_commX hn h s s1 s2 hi.b)) ops.size _ J F _ a s s' s' (by simp) ?_ ?_ hI hE1 hH1 (by rw [hl]; exact hs) (.refl _) ?_))) ?_
 ·intro i o ho hi e he hb
  have : i < ops.size := (Array.getElem?_eq_some_iff.1 ho).1;simp [Array.getD, this] at hi
 ·rw [hl]
  have := (qg8 hm).1;simp at this;omega
 ·intro a' w' s'' heq hmv
  exact ⟨rfl, hQ a' w' s'' heq hmv⟩
 ·rintro e a w ⟨rfl, h⟩
  exact h
end
open Go.Lib Go.RowKit
inductive PosD : DV->Prop
 | int (k : IntKind) (n : Int) : PosD (.int k n)
 | bool (b : Bool) : PosD (.bool b)
 | str (s : ByteArray) : PosD (.str s)
 | nils (s : Nat) : PosD (.nils s)
 | sl (s : Nat) (l : List (List DV)) (hs : 0 < s) (h : ∀ e ∈ l, ∀ d ∈ e, PosD d) : PosD (.sl s l)
 | sl0 (s : Nat) : PosD (.sl s [])
 | agg (l : List DV) (h : ∀ d ∈ l, PosD d) : PosD (.agg l)
theorem qpH {w : World} {g o : Nat} {v : Value} (h : w.cell? ⟨g, o, none⟩ = some v) : ∃ cs t q, w.heap[g]? = some (.cells cs t q) := by
 unfold World.cell? at h;simp only at h;split at h
 ·rename_i cs t q hg
  exact ⟨cs, t, q, hg⟩
 ·cases h
theorem Rep.onCells {F F2 : Nat->Prop} {w : World} {d : DV} {v : Value} (h : Rep F w d v) (hp : PosD d) (hF : ∀ g, F g->(∃ cs t q, w.heap[g]? = some (.cells cs t q))->F2 g) : Rep F2 w d v := by
 induction h with
 | int k n => exact .int k n
 | bool b => exact .bool b
 | str s => exact .str s
 | sl0 s a c => exact .sl0 s a c
 | nils s a => exact .nils s a
 | sl s l g o c vals hs hc h1 hg hcell hrep ih =>
  cases l with
  | nil => exact .sl0 s _ c
  | cons e l =>
   cases hp with
   | sl _ _ hpos hq =>
    have hl := hs e List.mem_cons_self;have h0 : e[0]? = some e[0] := List.getElem?_eq_getElem (by omega)
    refine .sl s (e :: l) g o c vals hs hc h1 (hF g hg (qpH (hcell 0 0 e _ rfl h0))) hcell (fun i j e' d' p1 p2 => ih i j e' d' p1 p2 (hq e' (List.mem_of_getElem? p1) d' (List.mem_of_getElem? p2)))
 | agg l vs hl h ih =>
  cases hp with
  | agg _ hq => exact .agg l vs hl (fun j d v p1 p2 => ih j d v p1 p2 (hq d (List.mem_of_getElem? p1)))
 | _ => cases hp
def Bet (B gm gp : Nat) : Nat->Prop := fun g => g < B/\g ≠ gm/\g ≠ gp
def Bet' (F0 : Nat->Prop) (B : Nat) (W : World) : Nat->Prop := fun g => F0 g\/(B<=g/\∃ cs t q, W.heap[g]? = some (.cells cs t q))
structure Good (F0 : Nat->Prop) (W1 : World) (gm gp : Nat) (ds : List DV) (W : World) : Prop where
 cur : ∃ (vs : List Value) (t : TypeId), W.heap[gm]? = some (.cells vs.toArray t (0, 0))/\vs.length = ds.length/\(∀ v ∈ vs, v.oneCell' = true) ∧
  ∀ (j : Nat) d v, ds[j]? = some d->vs[j]? = some v->Rep (Bet' F0 W1.heap.size W) W d v
 par : ∃ t, W.heap[gp]? = some (.cells #[.pointer (some ⟨gm, 0, none⟩)] t (0, 0))
 old : ∀ g, Bet W1.heap.size gm gp g->W.heap[g]? = W1.heap[g]?
 size : W1.heap.size<=W.heap.size
 os : W.os = W1.os
 tape : W.tape = W1.tape
 output : W.output = W1.output
theorem Good.own {F0 : Nat->Prop} {W1 : World} {gm gp : Nat} (hF0 : ∀ g, F0 g->Bet W1.heap.size gm gp g) {β : Type} (f : β->Option (List DV)) : OwnFrom W1.heap.size (fun (b : β) W => ∃ ds, f b = some ds/\Good F0 W1 gm gp ds W) := by
 rintro b W W' row ⟨ds, hf, hG⟩ hg hr;obtain ⟨g1, g2, g3, g4, g5⟩ := hg
 have hsame : ∀ g, (g < W.heap.size)->(g < W1.heap.size\/∃ cs t q, W.heap[g]? = some (.cells cs t q))->W'.heap[g]? = W.heap[g]? := by
  intro g hlt hg;refine g5 g hlt ?_
  intro e;obtain ⟨hB, o, ho, hc⟩ := hr g e.symm;rcases hg with h | ⟨cs, t, q, h⟩
  ·omega
  ·rw [h] at ho; cases ho; cases hc
 obtain ⟨vs, t, h1, h2, h3, h4⟩ := hG.cur;obtain ⟨tp, hp⟩ := hG.par;have hlt : ∀ {g : Nat} {o : Obj}, W.heap[g]? = some o->g < W.heap.size := fun h => (Array.getElem?_eq_some_iff.1 h).1
 refine ⟨ds, hf, ⟨⟨vs, t, ?_, h2, h3, fun j d v p1 p2 => (h4 j d v p1 p2).mono ?_ ?_⟩, ⟨tp, ?_⟩, fun g hg => ?_, Nat.le_trans hG.size g4, g1.trans hG.os, g2.trans hG.tape, g3.trans hG.output⟩⟩
 ·rw [hsame gm (hlt h1) (.inr ⟨_, _, _, h1⟩)]; exact h1
 ·rintro g (h | ⟨hB, cs, t', q, hc⟩)
  ·exact .inl h
  ·exact .inr ⟨hB, cs, t', q, by rw [hsame g (hlt hc) (.inr ⟨_, _, _, hc⟩)]; exact hc⟩
 ·rintro g (h | ⟨hB, cs, t', q, hc⟩)
  ·exact hsame g (Nat.lt_of_lt_of_le (hF0 g h).1 hG.size) (.inl (hF0 g h).1)
  ·exact hsame g (hlt hc) (.inr ⟨_, _, _, hc⟩)
 ·rw [hsame gp (hlt hp) (.inr ⟨_, _, _, hp⟩)]; exact hp
 ·rw [hsame g (Nat.lt_of_lt_of_le hg.1 hG.size) (.inl hg.1)]; exact hG.old g hg
def rJ (gm gp n : Nat) : Id->JI := fun i => if i = [1] then .live (some gm) true 1 n else if i = [2] then .live (some gp) true 1 1 else .none
def rH (ds : List DV) : Hp := fun i => if i = [1] then some (.box (ds.map .val)) else if i = [2] then some (.box [.box [1] 0]) else none
theorem qmD {gm gp n : Nat} {i : Id} {g : Option Nat} {o : Bool} {s c : Nat} (h : rJ gm gp n i = .live g o s c) : (i = [1]/\g = some gm/\o = true/\s = 1/\c = n)\/(i = [2]/\g = some gp/\o = true/\s = 1/\c = 1) := by
 unfold rJ at h;split at h
 ·rename_i e; cases h; exact .inl ⟨e, rfl, rfl, rfl, rfl⟩
 ·split at h
  ·rename_i e; cases h; exact .inr ⟨e, rfl, rfl, rfl, rfl⟩
  ·cases h
theorem Good.hrel {F0 : Nat->Prop} {W1 W : World} {gm gp : Nat} {ds : List DV} (hne : gm ≠ gp) (hm : gm < W1.heap.size) (hp : gp < W1.heap.size) (hF0 : ∀ g, F0 g->Bet W1.heap.size gm gp g) (hT : qbK F0 W1) (hG : Good F0 W1 gm gp ds W) : HRel (rJ gm gp ds.length) (Bet' F0 W1.heap.size W) W (rH ds) := by
 obtain ⟨vs, t, h1, h2, h3, h4⟩ := hG.cur;obtain ⟨tp, hpar⟩ := hG.par;have hJ1 : rJ gm gp ds.length [1] = .live (some gm) true 1 ds.length := rfl;have hJ2 : rJ gm gp ds.length [2] = .live (some gp) true 1 1 := rfl;refine ⟨fun i b hb => ?_, fun i hi => ?_, fun i i' g o s c o' s' c' q1 q2 => ?_, fun g hg hF => ?_, fun i g o s c q => ?_, fun g hg => ?_, ?_⟩
 ·unfold rH at hb
  split at hb
  ·rename_i e
   subst e;cases hb;refine .box _ gm 1 ds.length vs.toArray t hJ1 h1 (by simpa using h2) (fun j x v p1 p2 => ?_) (fun j v p => h3 v (by simpa using List.mem_of_getElem? (by simpa using p : vs[j]? = some v))) ⟨rfl, by simp⟩;rw [List.getElem?_map, Option.map_eq_some_iff] at p1;obtain ⟨d, p1, rfl⟩ := p1;exact .val d v (h4 j d v p1 (by simpa using p2))
  ·split at hb
   ·rename_i e
    subst e;cases hb;refine .box _ gp 1 1 _ tp hJ2 hpar rfl (fun j x v p1 p2 => ?_) (fun j v p => ?_) ⟨rfl, rfl⟩
    ·match j with
     | 0 => simp at p1 p2; subst p1 p2; exact .box [1] 0 gm true 1 ds.length hJ1
     | j + 1 => simp at p1
    ·match j with
     | 0 => simp at p; subst p; rfl
     | j + 1 => simp at p
   ·cases hb
 ·unfold rH at hi
  unfold rJ;split at hi
  ·cases hi
  ·split at hi
   ·cases hi
   ·rename_i e1 e2
    rw [if_neg e1, if_neg e2]
 ·rcases qmD q1 with ⟨e1, e2, _⟩ | ⟨e1, e2, _⟩ <;> rcases qmD q2 with ⟨e3, e4, _⟩ | ⟨e3, e4, _⟩
  ·rw [e1, e3]
  ·exfalso; rw [e2] at e4; exact hne (Option.some.inj e4)
  ·exfalso; rw [e2] at e4; exact hne (Option.some.inj e4).symm
  ·rw [e1, e3]
 ·obtain ⟨i, s, c, q⟩ := hg
  rcases qmD q with ⟨_, e, _⟩ | ⟨_, e, _⟩
  ·obtain rfl := Option.some.inj e
   rcases hF with h | h
   ·exact (hF0 _ h).2.1 rfl
   ·omega
  ·obtain rfl := Option.some.inj e
   rcases hF with h | h
   ·exact (hF0 _ h).2.2 rfl
   ·omega
 ·rcases qmD q with ⟨_, e, _⟩ | ⟨_, e, _⟩ <;> (obtain rfl := Option.some.inj e; exact Nat.lt_of_lt_of_le (by assumption) hG.size)
 ·rcases hg with h | ⟨_, cs, t', q, h⟩
  ·exact Nat.lt_of_lt_of_le (hF0 g h).1 hG.size
  ·exact (Array.getElem?_eq_some_iff.1 h).1
 ·exact hT.mono (fun g h => .inl h) (fun g h => hG.old g (hF0 g h))
theorem Good.next {F0 : Nat->Prop} {W1 W W' : World} {gm gp n : Nat} {ds ds' : List DV} {J' : Id->JI} {F' : Nat->Prop} (hn : n = ds.length) (hm : gm < W1.heap.size) (hp : gp < W1.heap.size) (hG : Good F0 W1 gm gp ds W) (hH' : HRel J' F' W' (rH ds')) (hE : Ext (rJ gm gp n) (Bet' F0 W1.heap.size W) W J' F' W') (hpos : ∀ d ∈ ds', PosD d) : Good F0 W1 gm gp ds' W' := by
 have b1 := hH'.blk [1] _ (show rH ds' [1] = some (.box (ds'.map .val)) from rfl);have b2 := hH'.blk [2] _ (show rH ds' [2] = some (.box [.box [1] 0]) from rfl);have l1 := hE.le [1];have l2 := hE.le [2];cases b1 with
 | box _ g1 s1 c1 cur1 e1 j1 hg1 hs1 hc1 ho1 hk1 =>
  cases b2 with
  | box _ g2 s2 c2 cur2 e2 j2 hg2 hs2 hc2 ho2 hk2 =>
   rw [j1] at l1;rw [j2] at l2;obtain ⟨e3, _⟩ := (show some g1 = some gm/\_ from l1);obtain ⟨e4, _⟩ := (show some g2 = some gp/\_ from l2);obtain rfl := Option.some.inj e3;obtain rfl := Option.some.inj e4;have hsz : W1.heap.size<=W.heap.size := hG.size;have own1 : Own J' g1 := ⟨[1], _, _, j1⟩;have own2 : Own J' g2 := ⟨[2], _, _, j2⟩
   have hF' : ∀ g, F' g->(∃ cs t q, W'.heap[g]? = some (.cells cs t q))->Bet' F0 W1.heap.size W' g := by
    intro g hg hcells;rcases hE.fnew g hg with h | h | h
    ·rcases h with h | h
     ·exact .inl h
     ·exact .inr ⟨h.1, hcells⟩
    ·obtain ⟨i, s, c, q⟩ := h
     rcases qmD q with ⟨_, e, _⟩ | ⟨_, e, _⟩
     ·obtain rfl := Option.some.inj e
      exact absurd hg (hH'.own _ own1)
     ·obtain rfl := Option.some.inj e
      exact absurd hg (hH'.own _ own2)
    ·exact .inr ⟨Nat.le_trans hsz h, hcells⟩
   refine ⟨⟨cur1.toList, e1, by simpa using hg1, by simpa using hs1, fun v hv => ?_, fun j d v p1 p2 => ?_⟩, ⟨e2, ?_⟩, fun g hg => ?_, Nat.le_trans hG.size hE.size, hE.os.trans hG.os, hE.tape.trans hG.tape, hE.output.trans hG.output⟩
   ·obtain ⟨j, hj⟩ := List.getElem?_of_mem hv
    exact ho1 j v (by simpa using hj)
   ·have hv := hc1 j (.val d) v (by rw [List.getElem?_map, p1]; rfl) (by simpa using p2)
    cases hv with
    | val _ _ hr => exact hr.onCells (hpos d (List.mem_of_getElem? p1)) hF'
   ·have h0 : cur2.size = 1 := hs2
    have hv : cur2[0]? = some cur2[0] := Array.getElem?_eq_getElem (by omega)
    have h5 := hc2 0 _ _ rfl hv
    have h6 : cur2[0] = .pointer (some ⟨g1, 0, none⟩) := by
     generalize cur2[0] = v at h5;cases h5 with
     | box _ _ g' o' s' c' hJ' => rw [j1] at hJ'; cases hJ'; rfl
     | boxDead _ _ _ hJ' => rw [j1] at hJ'; cases hJ'
    have h7 : cur2 = #[.pointer (some ⟨g1, 0, none⟩)] := by
     apply Array.ext
     ·simpa using h0
     ·intro i hi1 hi2
      have : i = 0 := by omega
      subst this;simpa using h6
    rw [← h7]; exact hg2
   ·rw [hE.heap g (Nat.lt_of_lt_of_le hg.1 hG.size) ?_]
    ·exact hG.old g hg
    ·rintro ⟨i, s, c, q⟩
     rcases qmD q with ⟨_, e, _⟩ | ⟨_, e, _⟩
     ·exact hg.2.1 (Option.some.inj e)
     ·exact hg.2.2 (Option.some.inj e)
theorem Good.keeps {F0 : Nat->Prop} {W1 W W' : World} {gm gp n : Nat} {J' : Id->JI} {F' : Nat->Prop} (hm : gm < W1.heap.size) (hp : gp < W1.heap.size) (hE : Ext (rJ gm gp n) (Bet' F0 W1.heap.size W) W J' F' W') : KeepsFrom W1.heap.size W W' := by
 refine ⟨hE.size, fun k o hB hk ho => ?_⟩;rw [hE.heap k (Array.getElem?_eq_some_iff.1 hk).1 ?_]
 ·exact hk
 ·rintro ⟨i, s, c, q⟩
  rcases qmD q with ⟨_, e, _⟩ | ⟨_, e, _⟩ <;> (have := Option.some.inj e; omega)
end Go.AI
