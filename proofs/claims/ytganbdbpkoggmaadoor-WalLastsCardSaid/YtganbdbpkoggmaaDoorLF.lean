/- An abstract reading of Go code: part LF of the library. No condition. -/
import Derived.Test.YtganbdbpkoggmaaDoorLE
import Derived.Tactics2
import Derived.WalkKit
import Derived.Lib.SliceRun
import Derived.Lib.AppendZeros
import Derived.Lib.AppendZerosOnto
import Derived.Lib.Overlaps
import Derived.Shelf.RegionOpenPlain
import GoSem.Extern.BytealgCompare
set_option linter.unusedVariables false
set_option linter.unusedSimpArgs false
namespace Go.AI
variable {tabI : Inhabited TabsD}
open Go.Lib
def quO (t tb : TypeId) : Code := (.seq (.region 0 #[(.mk (some 2) (.assign (.const (.slice none 0 0))) t "slices.go:355" #[] none)] false) (.seq (.seq (.region 1 #[(.mk (some 3) (.move (.tmp 0)) t "slices.go:357" #[] none), (.mk (some 4) (.binOp .eql t (.tmp 3) (.const (.slice none 0 0)) t) tb "slices.go:357" #[(.mk 0 .data)] none)] false) (.cond (.tmp 4) (.seq (.region 2 #[(.mk (some 2) (.assign (.const (.slice none 0 0))) t "slices.go:358" #[] none)] false) .ret) .skip)) (.seq (.region 3 #[(.mk (some 5) (.buildSlice t 0 #[]) t "slices.go:362" #[] none), (.mk (some 6) (.move (.tmp 0)) t "slices.go:362" #[] none), (.mk (some 7) (.call (.mk (.builtin .append) #[(.tmp 5), (.tmp 6)] #[t, t])) t "slices.go:362" #[(.mk 0 .data), (.mk 1 .data)] none), (.mk (some 2) (.assign (.tmp 7)) t "slices.go:362" #[(.mk 2 .data), (.mk 2 .chain), (.mk 0 .phase), (.mk 1 .phase), (.mk 2 .phase)] none)] false) .ret)))
def zh9 (P : Program) (e : TypeId) (s bytes : Nat) : Bool := match P.info? e with
 | some i => Nat.beq i.size s && Nat.beq i.bytes bytes && i.zero.isSome && (match qr2 P e with
  | some z => Nat.beq z.length i.size
  | none => false)
 | none => false
theorem qgB {P : Program} {e : TypeId} {s bytes : Nat} (h : zh9 P e s bytes = true) : ∃ i zv z, P.info? e = some i/\i.size = s/\i.bytes = bytes/\i.zero = some zv/\qr2 P e = some z/\z.length = i.size := by
 unfold zh9 at h;split at h
 ·rename_i i hi
  simp only [Bool.and_eq_true] at h;obtain ⟨⟨⟨h1, h2⟩, h3⟩, h4⟩ := h;obtain ⟨zv, hz⟩ := Option.isSome_iff_exists.1 h3;split at h4
  ·rename_i z hzz
   exact ⟨i, zv, z, hi, Nat.eq_of_beq_eq_true h1, Nat.eq_of_beq_eq_true h2, hz, hzz, Nat.eq_of_beq_eq_true h4⟩
  ·cases h4
 ·cases h
def qnL (P : Program) (f : FuncId) (ntmps k : Nat) (c : Code) : Prop := (P.funcs[f]?).map (fun fn => (fn.name == "runtime.NumGoroutine", fn.ntmps, fn.results, fn.body)) = some (false, ntmps, #[.tmp k], some c)
theorem qn8 {P : Program} {f : FuncId} {ntmps k : Nat} {c : Code} (h : qnL P f ntmps k c) : ∃ fn, P.funcs[f]? = some fn/\fn.ntmps = ntmps/\fn.results = #[.tmp k]/\fn.body = some c/\qv6 P f := by
 unfold qnL at h;obtain ⟨fn, h1, h2⟩ := Option.map_eq_some_iff.1 h;simp only [Prod.mk.injEq] at h2;obtain ⟨h2, h3, h4, h5⟩ := h2;exact ⟨fn, h1, h3, h4, h5, fn, h1, h2, by rw [h5]; rfl⟩
theorem res_tmp {P : Program} {fn : Func} {k : Nat} (h : fn.results = #[.tmp k]) (tmps : Array Value) (w : World) : (results fn tmps).run P w = .ok (tmps.getD k undef) w := by
 rw [qoM, h];simp [qtF]
theorem qo0 {P : Program} {fn : Func} {k : Nat} (h : fn.results = #[.tmp k]) {R : Ending->World->Prop} {a : Act} {w : World} (hd : a.defers = []) (hR : R (.returned (a.tmps.getD k undef)) w) : bodyPost P fn R .ret a w := ⟨hd, _, res_tmp h a.tmps w, hR⟩
section
variable {P : Program} {J : Id->JI} {F : Nat->Prop} {w : World} {H : Hp}
theorem qxK {x : AV} {v : Value} {s : Nat} {ys : List (List DV)} (hv : VRel J F w x v) (h : elems H s x = some ys) : ∃ a c, v = .slice a ys.length c/\(a = none->ys = []) := by
 unfold elems at h;split at h
 ·split at h
  ·cases h
   cases hv.inv_val with
   | sl0 s a c => exact ⟨a, c, rfl, fun _ => rfl⟩
   | sl => exact ⟨_, _, rfl, fun h => by cases h⟩
  ·cases h
 ·cases h
  cases hv.inv_val;exact ⟨_, _, rfl, fun _ => rfl⟩
 ·rename_i id s' o n
  split at h
  ·have key : ∀ es : List (List DV), o + n<=es.length->ys = (es.drop o).take n->∃ a c, v = .slice a ys.length c/\(a = none->ys = []) := by
    intro es hn hys;have hlen : ys.length = n := by rw [hys, List.length_take, List.length_drop]; omega
    rw [hlen];have hz : n = 0->ys = [] := fun h => List.eq_nil_of_length_eq_zero (by omega)
    cases hv with
    | row => exact ⟨_, _, rfl, fun h => by cases h⟩
    | rowNil => exact ⟨_, _, rfl, fun _ => hz rfl⟩
    | rowEnd => exact ⟨_, _, rfl, fun _ => hz rfl⟩
    | rowDead _ _ _ _ p c _ _ hp => exact ⟨_, _, rfl, fun h => hz (Classical.byContradiction fun h0 => hp h0 h)⟩
   split at h
   ·split at h
    ·rename_i hc
     cases h;exact key _ hc.2 rfl
    ·cases h
   ·split at h
    ·rename_i hc
     cases h;exact key _ hc.2 rfl
    ·cases h
   ·cases h
  ·cases h
 ·cases h
theorem qrB {f : FuncId} {t tb e : TypeId} {s bytes : Nat} (hfn : qnL P f 8 2 (quO t tb)) (ht : P.underlying t = some (.slice e)) (he : zh9 P e s bytes = true) : qj8 P f (qc7 (.clone s bytes)) := by
 obtain ⟨fn, hf, hnt, hres, hb, hent⟩ := qn8 hfn;obtain ⟨i, zv, z, hi, rfl, rfl, hzv, hz, hzl⟩ := qgB he;refine ⟨hent, fun ns avs H x H' hs J F w vs hH hv => ?_⟩
 obtain ⟨y, es, rfl, hid, hel, hby, hmx, rfl, rfl⟩ : ∃ y es, avs = [y]/\H ns = none/\elems H i.size y = some es/\es.length * i.bytes<=140737488355328/\es.length<=maxLen/\x = .row ns i.size 0 es.length/\H' = qj5 H none ns (.row i.size es) := by
  unfold qc7 at hs;split at hs
  ·cases hs
  rename_i hid;rcases avs with _ | ⟨y, _ | ⟨y2, avs⟩⟩
  ·cases hs
  ·simp only at hs
   split at hs
   ·rename_i es he2
    split at hs
    ·rename_i hc
     cases hs;exact ⟨y, es, rfl, hid, he2, hc.1, hc.2, rfl, rfl⟩
    ·cases hs
   ·cases hs
  ·cases hs
 obtain ⟨v, rfl, hvv⟩ : ∃ v, vs = [v]/\VRel J F w y v := by
  rcases vs with _ | ⟨v, _ | ⟨v2, vs⟩⟩
  ·cases hv.1
  ·exact ⟨v, rfl, hv.2 0 _ _ rfl rfl⟩
  ·simp at hv
 refine calls_of_wp hf hb ?_
 rw [hnt];simp only [List.size_toArray, List.length_cons, List.length_nil, Nat.reduceAdd, Nat.reduceSub, Array.replicate_succ, Array.replicate_zero, List.push_toArray, List.append_toArray, List.nil_append, List.cons_append];obtain ⟨a, c, rfl, ha⟩ := qxK hvv hel;have q : ∀ (w : World) (a : Option Addr) (n c n' c' : Nat), (binOp .eql t (.slice a n c) (.slice none n' c')).run P w = .ok (.bool a.isNone) w := fun w a n c n' c' => Lib.run_eql_slice_nil w _ _ a n c n' c' ht
 have u : ∀ w, Sem.run P (underlying t) w = .ok (TypeDesc.slice e) w := run_underlying ht;have sz : ∀ w, Sem.run P (sizeOf e) w = .ok i.size w := fun w => qd0 hi
 unfold quO;cases a with
 | none =>
  have hes := ha rfl;subst hes
  go_wp2
  refine qo0 hres rfl ?_
  obtain ⟨q1, q2⟩ := qgR hH ns hid i.size 0;exact ⟨_, rfl, _, F, .rowNil ns true i.size 0 none (qa6 _ _ _), q1, q2⟩
 | some a =>
  have hg : Grown w (w.alloc (.cells #[] e)) := ⟨fun g hg => heap_alloc w _ g hg, by show w.heap.size<=(w.heap.push _).size; simp, rfl, rfl, rfl⟩;obtain ⟨hH1, hX1⟩ := qbM (F' := fun _ => False) hH hg (fun g h => h.elim) (fun g h => h.elim);have hF : (fun g => F g\/False) = F := by funext g; simp
  rw [hF] at hH1 hX1;have hvv1 := hvv.ext hH hX1;obtain ⟨news, hsrc⟩ := qfJ (P := P) hH1 hvv1 hel
  obtain ⟨v', w', J', hrun, r1, r2, r3⟩ := qbN (ty := t) hH1 ht hi hzv hz hzl ht (.inl ⟨e, rfl⟩) hid (x := .val (.nils i.size)) (v := .slice (some ⟨w.heap.size, 0, none⟩) 0 0) (.val _ _ (.nils _ _)) hsrc (r := .row ns i.size 0 es.length) (H' := qj5 H none ns (.row i.size es)) (by
   simp only [qr3];rw [if_pos ⟨hby, hmx⟩];rfl)
  go_wp2_with (refine wpList_append_run _ rfl _ _ t t rfl _ _ rfl rfl v' w' hrun ?_)
  refine qo0 hres rfl ?_
  exact ⟨v', J', F, rfl, r1, r2, hX1.trans r3⟩
end
open Go.Lib
theorem zi0 {α : Type} {L B Y : List α} {p q : Nat} (hq : q = Y.length) (h : p + Y.length + B.length<=L.length) : splice (splice L (p + q) B) p Y = L.take p ++ Y ++ B ++ L.drop (p + Y.length + B.length) := by
 subst hq
 have h1 : (L.take (p + Y.length) ++ B ++ L.drop (p + Y.length + B.length)).take p = L.take p := by
  rw [List.append_assoc, List.take_append_of_le_length (by rw [List.length_take]; omega), List.take_take, Nat.min_eq_left (by omega)]
 have h2 : (L.take (p + Y.length) ++ B ++ L.drop (p + Y.length + B.length)).drop (p + Y.length) = B ++ L.drop (p + Y.length + B.length) := by
  rw [List.append_assoc, List.drop_append_of_le_length (by rw [List.length_take]; omega), List.drop_eq_nil_of_le (by rw [List.length_take]; omega), List.nil_append]
 unfold splice;rw [h1, h2];simp
theorem qlX {α : Type} {L B Y : List α} {p q : Nat} (hq : q = Y.length) (h : p + Y.length + B.length<=L.length) : splice (splice L p Y) (p + q) B = L.take p ++ Y ++ B ++ L.drop (p + Y.length + B.length) := by
 subst hq
 have h1 : (L.take p ++ Y ++ L.drop (p + Y.length)).take (p + Y.length) = L.take p ++ Y := by
  rw [List.take_append_of_le_length (by rw [List.length_append, List.length_take]; omega), List.take_of_length_le (by rw [List.length_append, List.length_take]; omega)]
 have h2 : (L.take p ++ Y ++ L.drop (p + Y.length)).drop (p + Y.length + B.length) = L.drop (p + Y.length + B.length) := by
  rw [List.drop_append, List.drop_eq_nil_of_le (by rw [List.length_append, List.length_take]; omega), List.nil_append, List.drop_drop]
  congr 1
  rw [List.length_append, List.length_take];omega
 unfold splice;rw [h1, h2]
theorem quP (w : World) (a b : Array Value) (e : TypeId) : (w.alloc (.cells a e)).setRow w.heap.size b = w.alloc (.cells b e) := by
 unfold World.alloc World.setRow
 congr 1
 apply Array.ext
 ·simp
 ·intro k h1 h2
  simp only [Array.getElem_modify, Array.getElem_push];by_cases hk : k < w.heap.size
  ·simp [hk, Nat.ne_of_gt hk]
  ·have : k = w.heap.size := by simp at h2; omega
   subst this;simp
section
variable {P : Program} {J : Id->JI} {F : Nat->Prop} {w : World} {H : Hp}
theorem Grid.take {s : Nat} {es : List (List DV)} {os : List Value} (h : Grid F w s es os) (j : Nat) (hj : j<=es.length) : Grid F w s (es.take j) (os.take (j * s))/\(os.take (j * s)).length = (es.take j).length * s := by
 have h1 : j * s<=os.length := Nat.le_trans (Nat.mul_le_mul_right _ hj) h.len;refine ⟨⟨?_, fun x hx => h.el x (List.mem_of_mem_take hx), ?_, ?_⟩, ?_⟩
 ·rw [List.length_take, List.length_take, Nat.min_eq_left hj, Nat.min_eq_left h1]; exact Nat.le_refl _
 ·intro i k x d v hx hd hv
  rw [List.getElem?_take] at hx hv;split at hx
  ·split at hv
   ·exact h.rep i k x d v hx hd hv
   ·cases hv
  ·cases hx
 ·intro k v hv
  rw [List.getElem?_take] at hv;split at hv
  ·exact h.one k v hv
  ·cases hv
 ·rw [List.length_take, List.length_take, Nat.min_eq_left hj, Nat.min_eq_left h1]
theorem Grid.drop {s : Nat} {es : List (List DV)} {os : List Value} (h : Grid F w s es os) (j : Nat) (hj : j<=es.length) : Grid F w s (es.drop j) ((os.drop (j * s)).take ((es.length - j) * s))/\((os.drop (j * s)).take ((es.length - j) * s)).length = (es.drop j).length * s := by
 have h1 : (es.length - j) * s<=(os.drop (j * s)).length := by
  rw [List.length_drop, Nat.sub_mul];have := h.len;omega
 have h2 : ((os.drop (j * s)).take ((es.length - j) * s)).length = (es.drop j).length * s := by
  rw [List.length_take, Nat.min_eq_left h1, List.length_drop]
 refine ⟨⟨Nat.le_of_eq h2.symm, fun x hx => h.el x (List.mem_of_mem_drop hx), ?_, ?_⟩, h2⟩
 ·intro i k x d v hx hd hv
  rw [List.getElem?_drop] at hx;rw [List.getElem?_take] at hv;split at hv
  ·rw [List.getElem?_drop] at hv
   refine h.rep (j + i) k x d v hx hd ?_
   rw [← hv, Nat.add_mul]
   congr 1
   omega
  ·cases hv
 ·intro k v hv
  rw [List.getElem?_take] at hv;split at hv
  ·rw [List.getElem?_drop] at hv
   exact h.one _ v hv
  ·cases hv
theorem own_row (hH : HRel J F w H) {b : Id} {s : Nat} {es : List (List DV)} (hb : H b = some (.row s es)) {v : Value} (hv : VRel J F w (.row b s 0 es.length) v) (h0 : es ≠ []) :
  ∃ g c cur e, v = .slice (some ⟨g, 0, none⟩) es.length c/\J b = .live (some g) true s c/\w.heap[g]? = some (.cells cur e (0, 0))/\cur.size = c * s/\es.length<=c/\c<=maxLen/\Grid F w s es cur.toList := by
 obtain ⟨n, hnl⟩ : ∃ n, n = es.length := ⟨_, rfl⟩;rw [← hnl] at hv;cases hH.blk _ _ hb with
 | row _ _ g c cur e hJ hg hs hn hm hel hc h1 =>
  cases hv with
  | row _ _ _ g' own' _ cap hJ' hc' =>
   rw [hJ] at hJ'; cases hJ';refine ⟨g, c, cur, e, by rw [Nat.zero_mul, Nat.sub_zero, hnl], hJ, hg, hs, hn, hm, ⟨?_, hel, ?_, ?_⟩⟩
   ·have : es.length * s<=c * s := Nat.mul_le_mul_right _ hn
    simp only [Array.length_toList];omega
   ·intro i j x d v h2 h3 h4
    exact hc i j x d v h2 h3 (by simpa using h4)
   ·intro j u h2
    exact h1 j u (by simpa using h2)
  | rowNil _ _ _ _ _ hJ' => rw [hJ] at hJ'; cases hJ'
  | rowEnd => exact absurd (List.eq_nil_of_length_eq_zero hnl.symm) h0
  | rowDead _ _ _ _ _ _ hJ' => rw [hJ] at hJ'; cases hJ'
 | rowNil _ _ hJ => exact absurd rfl h0
theorem qt4 {dT sT ty e : TypeId} {i : TypeInfo} (hu : P.underlying dT = some (.slice e)) (hi : P.info? e = some i) {g o dn dc : Nat} {a : Addr} {sn sc : Nat} {cur : Array Value} {t : TypeId} {cs : List Value}
  (hg : w.heap[g]? = some (.cells cur t (0, 0))) (hn : cs.length = Nat.min sn dn * i.size) (hsrc : ∀ (j : Nat) v, cs[j]? = some v->w.cell? (a.add j) = some v) (hfit : o + cs.length<=cur.size) (h1 : ∀ v ∈ cs, v.oneCell' = true) :
  (Builtin.copy_ #[dT, sT] ty #[.slice (some ⟨g, o, none⟩) dn dc, .slice (some a) sn sc]).run P w = .ok (goInt (Nat.min sn dn)) (w.setRow g (splice cur.toList o cs).toArray) := by
 have hl := run_loadCells_list (P := P) w a cs hsrc;have hst := run_storeCells_at P g o t cs 0 cur w hg (by simpa using hfit) h1;simp only [Nat.add_zero] at hst;rw [qq9] at hst;simp [Builtin.copy_, run_underlying hu, Builtin.lenOf, Builtin.firstCells, sizeOf, typeInfo, hi, ← hn, hl, hst]
theorem qxL (g : Nat) (c : Array Value) : (w.setRow g c).drew = w.drew.setRow g c := rfl
theorem qpC (w : World) {o : Oper} {a : Act} {K : Act->World->Prop} {Q : Exit->Act->World->Prop} (d s : Operand) (t t' : TypeId)
  (ho : o.op = .call { callee := .builtin .copy, args := #[d, s], argTypes := #[t, t'] }) (v u : Value) (hd : a.eval d = v) (hs : a.eval s = u) {v' : Value} {w' : World}
  (hr : (Builtin.copy_ #[t, t'] o.type #[v, u]).run P w = .ok v' w') (h : K (a.put o.dst v') w') : o.wp P a w K Q := by
 unfold Oper.wp execOp;simp only [ho, resolve, invoke, builtin, Sem.run_bind, Sem.run_pure, Result.andThen_ok, List.map_toArray, List.map_cons, List.map_nil, hd, hs, hr];exact h
theorem qiK {ops : Array Oper} {o : Oper} {a : Act} {w : World} {K : Act->World->Prop} {Q : Exit->Act->World->Prop} {E : Prop}
  (hg : o.guard = none) (d x : Operand) (dT sT : TypeId) (hop : o.op = Op.call { callee := Callee.builtin Builtin.copy, args := #[d, x], argTypes := #[dT, sT] })
  (v u : Value) (hd : a.eval d = v) (hx : a.eval x = u) {v' : Value} {w' : World} (hr : (Builtin.copy_ #[dT, sT] o.type #[v, u]).run P w = .ok v' w') (hK : K (a.put o.dst v') w') :
  if Region.wanted o (yielded ops a.tmps) = true then Oper.wp P o a w K Q else E := by
 have hw : Region.wanted o (yielded ops a.tmps) = true := by simp [Region.wanted, hg]
 rw [if_pos hw];exact qpC w d x dT sT hop v u hd hx hr hK
end
open Go.Lib
def qeQ (t ti tb : TypeId) (fo fr : FuncId) : Code := (.seq (.region 0 #[(.mk (some 6) (.assign (.const (.slice none 0 0))) t "slices.go:136" #[] none)] false) (.seq (.region 1 #[(.mk (some 10) (.move (.tmp 0)) t "slices.go:137" #[] none), (.mk (some 11) (.move (.tmp 1)) ti "slices.go:137" #[] none), (.mk (some 12) (.slice t (.tmp 10) (some (.tmp 11)) none none) t "slices.go:137" #[(.mk 0 .data), (.mk 1 .data)] none)] false) (.seq (.region 2 #[(.mk (some 13) (.move (.tmp 2)) t "slices.go:139" #[] none), (.mk (some 14) (.call (.mk (.builtin .len) #[(.tmp 13)] #[t])) ti "slices.go:139" #[(.mk 0 .data)] none), (.mk (some 7) (.assign (.tmp 14)) ti "slices.go:139" #[(.mk 1 .data), (.mk 0 .phase), (.mk 1 .phase)] none)] false) (.seq (.seq (.region 3 #[(.mk (some 15) (.move (.tmp 7)) ti "slices.go:140" #[] none), (.mk (some 16) (.binOp .eql ti (.tmp 15) (.const (.int .i64 0)) ti) tb "slices.go:140" #[(.mk 0 .data)] none)] false) (.cond (.tmp 16) (.seq (.region 4 #[(.mk (some 17) (.move (.tmp 0)) t "slices.go:141" #[] none), (.mk (some 6) (.assign (.tmp 17)) t "slices.go:141" #[(.mk 0 .data), (.mk 0 .phase)] none)] false) .ret) .skip)) (.seq (.region 5 #[(.mk (some 18) (.move (.tmp 0)) t "slices.go:143" #[] none), (.mk (some 19) (.call (.mk (.builtin .len) #[(.tmp 18)] #[t])) ti "slices.go:143" #[(.mk 0 .data)] none), (.mk (some 8) (.assign (.tmp 19)) ti "slices.go:143" #[(.mk 1 .data), (.mk 0 .phase), (.mk 1 .phase)] none)] false) (.seq (.seq (.region 6 #[(.mk (some 20) (.move (.tmp 1)) ti "slices.go:144" #[] none), (.mk (some 21) (.move (.tmp 8)) ti "slices.go:144" #[] none), (.mk (some 22) (.binOp .eql ti (.tmp 20) (.tmp 21) ti) tb "slices.go:144" #[(.mk 0 .data), (.mk 1 .data)] none)] false) (.cond (.tmp 22) (.seq (.region 7 #[(.mk (some 23) (.move (.tmp 0)) t "slices.go:145" #[] none), (.mk (some 24) (.move (.tmp 2)) t "slices.go:145" #[] none), (.mk (some 25) (.call (.mk (.builtin .append) #[(.tmp 23), (.tmp 24)] #[t, t])) t "slices.go:145" #[(.mk 0 .data), (.mk 1 .data)] none), (.mk (some 6) (.assign (.tmp 25)) t "slices.go:145" #[(.mk 2 .data), (.mk 2 .chain), (.mk 0 .phase), (.mk 1 .phase), (.mk 2 .phase)] none)] false) .ret) .skip)) (.seq (.seq (.region 8 #[(.mk (some 26) (.move (.tmp 8)) ti "slices.go:147" #[] none), (.mk (some 27) (.move (.tmp 7)) ti "slices.go:147" #[] none), (.mk (some 28) (.binOp .add ti (.tmp 26) (.tmp 27) ti) ti "slices.go:147" #[(.mk 0 .data), (.mk 1 .data)] none), (.mk (some 29) (.move (.tmp 0)) t "slices.go:147" #[] none), (.mk (some 30) (.call (.mk (.builtin .cap) #[(.tmp 29)] #[t])) ti "slices.go:147" #[(.mk 3 .data)] none), (.mk (some 31) (.binOp .gtr ti (.tmp 28) (.tmp 30) ti) tb "slices.go:147" #[(.mk 2 .data), (.mk 4 .data)] none)] false) (.cond (.tmp 31) (.seq (.region 9 #[(.mk (some 32) (.move (.tmp 0)) t "slices.go:152" #[] none), (.mk (some 33) (.move (.tmp 1)) ti "slices.go:152" #[] none), (.mk (some 34) (.slice t (.tmp 32) none (some (.tmp 33)) none) t "slices.go:152" #[(.mk 0 .data), (.mk 1 .data)] none), (.mk (some 35) (.move (.tmp 8)) ti "slices.go:152" #[] none), (.mk (some 36) (.move (.tmp 7)) ti "slices.go:152" #[] none), (.mk (some 37) (.binOp .add ti (.tmp 35) (.tmp 36) ti) ti "slices.go:152" #[(.mk 3 .data), (.mk 4 .data)] none), (.mk (some 38) (.move (.tmp 1)) ti "slices.go:152" #[] none), (.mk (some 39) (.binOp .sub ti (.tmp 37) (.tmp 38) ti) ti "slices.go:152" #[(.mk 5 .data), (.mk 6 .data)] none), (.mk (some 40) (.call (.mk (.builtin .append) #[(.tmp 34), (.tmp 39)] #[t, ti])) t "slices.go:152" #[(.mk 2 .data), (.mk 7 .data)] none), (.mk (some 9) (.assign (.tmp 40)) t "slices.go:152" #[(.mk 8 .data), (.mk 8 .chain), (.mk 0 .phase), (.mk 1 .phase), (.mk 2 .phase), (.mk 3 .phase), (.mk 4 .phase), (.mk 5 .phase), (.mk 6 .phase), (.mk 7 .phase), (.mk 8 .phase)] none)] false) (.seq (.region 10 #[(.mk (some 41) (.move (.tmp 9)) t "slices.go:153" #[] none), (.mk (some 42) (.move (.tmp 1)) ti "slices.go:153" #[] none), (.mk (some 43) (.slice t (.tmp 41) (some (.tmp 42)) none none) t "slices.go:153" #[(.mk 0 .data), (.mk 1 .data)] none), (.mk (some 44) (.move (.tmp 2)) t "slices.go:153" #[] none), (.mk (some 45) (.call (.mk (.builtin .copy) #[(.tmp 43), (.tmp 44)] #[t, t])) ti "slices.go:153" #[(.mk 2 .data), (.mk 3 .data)] none)] false) (.seq (.region 11 #[(.mk (some 46) (.move (.tmp 9)) t "slices.go:154" #[] none), (.mk (some 47) (.move (.tmp 1)) ti "slices.go:154" #[] none), (.mk (some 48) (.move (.tmp 7)) ti "slices.go:154" #[] none), (.mk (some 49) (.binOp .add ti (.tmp 47) (.tmp 48) ti) ti "slices.go:154" #[(.mk 1 .data), (.mk 2 .data)] none), (.mk (some 50) (.slice t (.tmp 46) (some (.tmp 49)) none none) t "slices.go:154" #[(.mk 0 .data), (.mk 3 .data)] none), (.mk (some 51) (.move (.tmp 0)) t "slices.go:154" #[] none), (.mk (some 52) (.move (.tmp 1)) ti "slices.go:154" #[] none), (.mk (some 53) (.slice t (.tmp 51) (some (.tmp 52)) none none) t "slices.go:154" #[(.mk 5 .data), (.mk 6 .data)] none), (.mk (some 54) (.call (.mk (.builtin .copy) #[(.tmp 50), (.tmp 53)] #[t, t])) ti "slices.go:154" #[(.mk 4 .data), (.mk 7 .data)] none)] true) (.seq (.region 12 #[(.mk (some 55) (.move (.tmp 9)) t "slices.go:155" #[] none), (.mk (some 6) (.assign (.tmp 55)) t "slices.go:155" #[(.mk 0 .data), (.mk 0 .phase)] none)] false) .ret)))) .skip)) (.seq (.region 13 #[(.mk (some 56) (.move (.tmp 0)) t "slices.go:157" #[] none), (.mk (some 57) (.move (.tmp 8)) ti "slices.go:157" #[] none), (.mk (some 58) (.move (.tmp 7)) ti "slices.go:157" #[] none), (.mk (some 59) (.binOp .add ti (.tmp 57) (.tmp 58) ti) ti "slices.go:157" #[(.mk 1 .data), (.mk 2 .data)] none), (.mk (some 60) (.slice t (.tmp 56) none (some (.tmp 59)) none) t "slices.go:157" #[(.mk 0 .data), (.mk 3 .data)] none), (.mk (some 0) (.assign (.tmp 60)) t "slices.go:157" #[(.mk 4 .data), (.mk 0 .phase), (.mk 1 .phase), (.mk 2 .phase), (.mk 3 .phase), (.mk 4 .phase)] none)] false) (.seq (.seq (.region 14 #[(.mk (some 61) (.move (.tmp 2)) t "slices.go:173" #[] none), (.mk (some 62) (.move (.tmp 0)) t "slices.go:173" #[] none), (.mk (some 63) (.move (.tmp 1)) ti "slices.go:173" #[] none), (.mk (some 64) (.move (.tmp 7)) ti "slices.go:173" #[] none), (.mk (some 65) (.binOp .add ti (.tmp 63) (.tmp 64) ti) ti "slices.go:173" #[(.mk 2 .data), (.mk 3 .data)] none), (.mk (some 66) (.slice t (.tmp 62) (some (.tmp 65)) none none) t "slices.go:173" #[(.mk 1 .data), (.mk 4 .data)] none), (.mk (some 67) (.call (.mk (.value (.func fo)) #[(.tmp 61), (.tmp 66)] #[t, t])) tb "slices.go:173" #[(.mk 0 .data), (.mk 5 .data)] none), (.mk (some 68) (.unOp .not tb (.tmp 67)) tb "slices.go:173" #[(.mk 6 .data)] none)] false) (.cond (.tmp 68) (.seq (.region 15 #[(.mk (some 69) (.move (.tmp 0)) t "slices.go:178" #[] none), (.mk (some 70) (.move (.tmp 1)) ti "slices.go:178" #[] none), (.mk (some 71) (.move (.tmp 7)) ti "slices.go:178" #[] none), (.mk (some 72) (.binOp .add ti (.tmp 70) (.tmp 71) ti) ti "slices.go:178" #[(.mk 1 .data), (.mk 2 .data)] none), (.mk (some 73) (.slice t (.tmp 69) (some (.tmp 72)) none none) t "slices.go:178" #[(.mk 0 .data), (.mk 3 .data)] none), (.mk (some 74) (.move (.tmp 0)) t "slices.go:178" #[] none), (.mk (some 75) (.move (.tmp 1)) ti "slices.go:178" #[] none), (.mk (some 76) (.slice t (.tmp 74) (some (.tmp 75)) none none) t "slices.go:178" #[(.mk 5 .data), (.mk 6 .data)] none), (.mk (some 77) (.call (.mk (.builtin .copy) #[(.tmp 73), (.tmp 76)] #[t, t])) ti "slices.go:178" #[(.mk 4 .data), (.mk 7 .data)] none)] true) (.seq (.region 16 #[(.mk (some 78) (.move (.tmp 0)) t "slices.go:186" #[] none), (.mk (some 79) (.move (.tmp 1)) ti "slices.go:186" #[] none), (.mk (some 80) (.slice t (.tmp 78) (some (.tmp 79)) none none) t "slices.go:186" #[(.mk 0 .data), (.mk 1 .data)] none), (.mk (some 81) (.move (.tmp 2)) t "slices.go:186" #[] none), (.mk (some 82) (.call (.mk (.builtin .copy) #[(.tmp 80), (.tmp 81)] #[t, t])) ti "slices.go:186" #[(.mk 2 .data), (.mk 3 .data)] none)] false) (.seq (.region 17 #[(.mk (some 83) (.move (.tmp 0)) t "slices.go:193" #[] none), (.mk (some 6) (.assign (.tmp 83)) t "slices.go:193" #[(.mk 0 .data), (.mk 0 .phase)] none)] false) .ret))) .skip)) (.seq (.region 18 #[(.mk (some 84) (.move (.tmp 0)) t "slices.go:200" #[] none), (.mk (some 85) (.move (.tmp 8)) ti "slices.go:200" #[] none), (.mk (some 86) (.slice t (.tmp 84) (some (.tmp 85)) none none) t "slices.go:200" #[(.mk 0 .data), (.mk 1 .data)] none), (.mk (some 87) (.move (.tmp 2)) t "slices.go:200" #[] none), (.mk (some 88) (.call (.mk (.builtin .copy) #[(.tmp 86), (.tmp 87)] #[t, t])) ti "slices.go:200" #[(.mk 2 .data), (.mk 3 .data)] none)] false) (.seq (.region 19 #[(.mk (some 89) (.move (.tmp 0)) t "slices.go:207" #[] none), (.mk (some 90) (.move (.tmp 1)) ti "slices.go:207" #[] none), (.mk (some 91) (.slice t (.tmp 89) (some (.tmp 90)) none none) t "slices.go:207" #[(.mk 0 .data), (.mk 1 .data)] none), (.mk (some 92) (.move (.tmp 7)) ti "slices.go:207" #[] none), (.mk (some 93) (.call (.mk (.value (.func fr)) #[(.tmp 91), (.tmp 92)] #[t, ti])) 0 "slices.go:207" #[(.mk 2 .data), (.mk 3 .data)] none)] false) (.seq (.region 20 #[(.mk (some 94) (.move (.tmp 0)) t "slices.go:214" #[] none), (.mk (some 6) (.assign (.tmp 94)) t "slices.go:214" #[(.mk 0 .data), (.mk 0 .phase)] none)] false) .ret))))))))))))
def qpD (P : Program) (t tb : TypeId) (fo : FuncId) : Prop := (P.funcs[fo]?).map (fun fn => (fn.name == "runtime.NumGoroutine", fn.body.isNone, Extern.findNext fn, Extern.find fn)) = some (false, true, none, some (Extern.SlicesOverlaps.overlaps #[t, t] #[tb]))
theorem zi1 {P : Program} {t tb : TypeId} {fo : FuncId} (h : qpD P t tb fo) : ∃ fn, P.funcs[fo]? = some fn/\(fn.name == "runtime.NumGoroutine") = false/\fn.body.isNone = true/\Extern.findNext fn = none/\Extern.find fn = some (Extern.SlicesOverlaps.overlaps #[t, t] #[tb]) := by
 unfold qpD at h;obtain ⟨fn, h1, h2⟩ := Option.map_eq_some_iff.1 h;simp only [Prod.mk.injEq] at h2;exact ⟨fn, h1, h2.1, h2.2.1, h2.2.2.1, h2.2.2.2⟩
section
variable {P : Program}
theorem ins_end {f fo fr : FuncId} {t ti tb e : TypeId} {s : Nat} (hfn : qnL P f 95 6 (qeQ t ti tb fo fr)) (ht : P.underlying t = some (.slice e)) (hti : P.underlying ti = some (.int .i64)) (hsz : ∀ w, (sizeOf e).run P w = .ok s w)
  {w W : World} {p : Option Addr} {n c m cap : Nat} {g : Nat} {v' : Value} (hm : 0 < m) (hnc : n<=c)
  (hrun : (Builtin.append_ #[t, t] t #[.slice p n c, .slice (some ⟨g, 0, none⟩) m cap]).run P w = .ok v' W) :
  Calls P f #[.slice p n c, .int .i64 n, .slice (some ⟨g, 0, none⟩) m cap] w fun e w' => e = .returned v'/\w' = W := by
 obtain ⟨fn, hf, hnt, hres, hb, hent⟩ := qn8 hfn;have hz1 : ¬ ((m : Int) = 0) := by omega
 have u : ∀ w, Sem.run P (underlying t) w = .ok (TypeDesc.slice e) w := run_underlying ht;have ui : ∀ w, Sem.run P (underlying ti) w = .ok (TypeDesc.int .i64) w := run_underlying hti;refine calls_of_wp hf hb ?_
 rw [hnt];simp only [List.size_toArray, List.length_cons, List.length_nil, Nat.reduceAdd, Nat.reduceSub, Array.replicate_succ, Array.replicate_zero, List.push_toArray, List.append_toArray, List.nil_append, List.cons_append];unfold qeQ
 go_wp2_with (at_builtin; refine Lib.wpList_append_run _ rfl _ _ _ _ rfl _ _ rfl rfl _ _ hrun ?_)
 all_goals (refine qo0 hres rfl ?_; exact ⟨rfl, rfl⟩)
set_option maxHeartbeats 4000000 in
set_option maxRecDepth 100000 in
theorem ins_grow {f fo fr : FuncId} {t ti tb e : TypeId} {i : TypeInfo} {z : Value} (hfn : qnL P f 95 6 (qeQ t ti tb fo fr)) (ht : P.underlying t = some (.slice e)) (hti : P.underlying ti = some (.int .i64)) (hi : P.info? e = some i) (hz : i.zero = some z) (hs0 : 0 < i.size) (hzs : z.cells.size = i.size) (hz1 : ∀ (j : Nat) u, z.cells.toList[j]? = some u->u.oneCell' = true) (mixed : P.follows .mixedOrders = true)
  {w : World} {j n c m cap g g' : Nat} {cur cur' : Array Value} {te te' : TypeId} (hm : 0 < m) (hj : j < n) (hnc : n<=c) (hroom : c < n + m) (hby : (n + m) * i.bytes<=70368744177664) (hml : n + m<=maxLen)
  (hg : w.heap[g]? = some (.cells cur te (0, 0))) (hc : cur.size = c * i.size) (hg' : w.heap[g']? = some (.cells cur' te' (0, 0))) (hc' : cur'.size = cap * i.size) (hmc : m<=cap) (h1 : ∀ v ∈ cur.toList, v.oneCell' = true) (h1' : ∀ v ∈ cur'.toList, v.oneCell' = true) :
  Calls P f #[.slice (some ⟨g, 0, none⟩) n c, .int .i64 j, .slice (some ⟨g', 0, none⟩) m cap] w fun en w' => ∃ G zs, en = .returned (.slice (some ⟨w.heap.size, 0, none⟩) (n + m) G)/\n + m<=G/\G<=maxLen/\zs.length = (G - (n + m)) * i.size/\(∀ (j : Nat) v, zs[j]? = some v->v.oneCell' = true) ∧
   w' = w.drew.drew.alloc (.cells (cur.toList.take (j * i.size) ++ cur'.toList.take (m * i.size) ++ (cur.toList.drop (j * i.size)).take ((n - j) * i.size) ++ zs).toArray e) := by
 obtain ⟨fn, hf, hnt, hres, hb, hent⟩ := qn8 hfn;have hz0 : ¬ ((m : Int) = 0) := by omega
 have hz2 : ¬ ((j : Int) = (n : Int)) := by omega
 have hz3 : (c : Int) < (n : Int) + (m : Int) := by omega
 have u : ∀ w, Sem.run P (underlying t) w = .ok (TypeDesc.slice e) w := run_underlying ht;have ui : ∀ w, Sem.run P (underlying ti) w = .ok (TypeDesc.int .i64) w := run_underlying hti;have sz : ∀ w, Sem.run P (sizeOf e) w = .ok i.size w := fun w => qd0 hi
 have hkk : (n : Int) + (m : Int) - (j : Int) = ((n + m - j : Nat) : Int) := by omega
 have hik : j + (n + m - j) = n + m := by omega
 have hw1 : IntKind.i64.wrap ((j : Int) + (m : Int)) = (j : Int) + (m : Int) := by unfold maxLen at hml; rw [IntKind.wrap_i64]; omega
 have hw2 : IntKind.i64.wrap ((n : Int) + (m : Int)) = (n : Int) + (m : Int) := by unfold maxLen at hml; rw [IntKind.wrap_i64]; omega
 have hlt : (j + 1) * i.size<=n * i.size := Nat.mul_le_mul_right _ hj;have hnc2 : n * i.size<=c * i.size := Nat.mul_le_mul_right _ hnc;have hmc2 : m * i.size<=cap * i.size := Nat.mul_le_mul_right _ hmc;have hjs : j * i.size<=n * i.size := Nat.mul_le_mul_right _ (by omega);have hnj : j * i.size + (n - j) * i.size = n * i.size := by rw [← Nat.add_mul]; congr 1; omega
 have hgl : g < w.heap.size := (Array.getElem?_eq_some_iff.1 hg).1;have hgl' : g' < w.heap.size := (Array.getElem?_eq_some_iff.1 hg').1;obtain ⟨A, hA⟩ : ∃ A, A = cur.toList.take (j * i.size) := ⟨_, rfl⟩;obtain ⟨Y, hY⟩ : ∃ Y, Y = cur'.toList.take (m * i.size) := ⟨_, rfl⟩;obtain ⟨B, hB⟩ : ∃ B, B = (cur.toList.drop (j * i.size)).take ((n - j) * i.size) := ⟨_, rfl⟩;have hAl : A.length = j * i.size := by rw [hA, List.length_take, Array.length_toList]; omega
 have hYl : Y.length = m * i.size := by rw [hY, List.length_take, Array.length_toList]; omega
 have hBl : B.length = (n - j) * i.size := by rw [hB, List.length_take, List.length_drop, Array.length_toList]; omega
 have hAm : ∀ v ∈ A, v.oneCell' = true := fun v hv => h1 v (by rw [hA] at hv; exact List.mem_of_mem_take hv)
 have hYm : ∀ v ∈ Y, v.oneCell' = true := fun v hv => h1' v (by rw [hY] at hv; exact List.mem_of_mem_take hv)
 have hBm : ∀ v ∈ B, v.oneCell' = true := fun v hv => h1 v (by rw [hB] at hv; exact List.mem_of_mem_drop (List.mem_of_mem_take hv))
 have hAg : ∀ (k : Nat) v, A[k]? = some v->cur[k]? = some v := fun k v h => by
  rw [hA, List.getElem?_take] at h;split at h
  ·simpa using h
  ·cases h
 have hYg : ∀ (k : Nat) v, Y[k]? = some v->cur'[k]? = some v := fun k v h => by
  rw [hY, List.getElem?_take] at h;split at h
  ·simpa using h
  ·cases h
 have hBg : ∀ (k : Nat) v, B[k]? = some v->cur[j * i.size + k]? = some v := fun k v h => by
  rw [hB, List.getElem?_take] at h;split at h
  ·rw [List.getElem?_drop] at h
   simpa using h
  ·cases h
 rw [← hA, ← hY, ← hB]
 have hold : (Builtin.firstCells i.size j (.slice (some ⟨g, 0, none⟩) j c)).run P w.drew = .ok A.toArray w.drew :=
  run_firstCells_some w.drew i.size j ⟨g, 0, none⟩ j c A (by rw [hAl]) (fun k v hk => by
   rw [Addr.add_mid, Nat.zero_add];exact (qc4 (w := w.drew) hg k).trans (hAg k v hk))
 obtain ⟨G, hG⟩ : ∃ G, G = grownCap w (n + m) c e := ⟨_, rfl⟩;obtain ⟨ROW, hROW⟩ : ∃ ROW : Array Value, ROW = A.toArray ++ Builtin.zeroCells z.cells (n + m - j) ++ Builtin.zeroCells z.cells (G - (n + m)) := ⟨_, rfl⟩
 have hrz : ∀ ty, (Builtin.append_ #[t, ti] ty #[.slice (some ⟨g, 0, none⟩) j c, .int .i64 ((n : Int) + (m : Int) - (j : Int))]).run P w = .ok (.slice (some ⟨w.heap.size, 0, none⟩) (n + m) G) (w.drew.alloc (.cells ROW e)) := fun ty => by
  have h := Lib.run_append_grow_zeros w t ti ty e i z .i64 .i64 ht hti hi hz (some ⟨g, 0, none⟩) j c A hold (n + m - j) (by omega) hs0 (by omega) (by unfold maxLen at hml; omega) (Nat.le_trans (Nat.mul_le_mul_right _ (by omega)) (Nat.le_trans hby (by omega))) (by rw [hik]; exact growslice_fits hroom (Nat.le_trans hby (by omega)));rw [hik] at h;rw [hkk, hROW, hG];exact h
 have hGn : n + m<=G := by rw [hG]; exact grownCap_ge w _ _ _
 have hGm : G<=maxLen := by rw [hG]; exact grownCap_le_maxLen w (n + m) c e hml
 have hRs : ROW.size = G * i.size := by
  rw [hROW];simp only [Array.size_append, List.size_toArray, size_zeroCells, hAl, hzs, ← Nat.add_mul]
  congr 1
  omega
 have hGs : (n + m) * i.size<=G * i.size := Nat.mul_le_mul_right _ hGn;have hnm : j * i.size + m * i.size + (n - j) * i.size = (n + m) * i.size := by rw [← Nat.add_mul, ← Nat.add_mul]; congr 1; omega
 have hjm : (j + m) * i.size = j * i.size + m * i.size := Nat.add_mul _ _ _;have hW1 : (w.drew.alloc (.cells ROW e)).heap[w.heap.size]? = some (.cells ROW e (0, 0)) := heap_alloc_new w.drew _;have hO : ∀ q, q < w.heap.size->∀ o, w.heap[q]? = some o->(w.drew.alloc (.cells ROW e)).heap[q]? = some o := fun q hq o h => (heap_alloc w.drew _ q hq).trans h
 have hcpA : ∀ ty dc, (Builtin.copy_ #[t, t] ty #[.slice (some ⟨w.heap.size, j * i.size, none⟩) (n + m - j) dc, .slice (some ⟨g', 0, none⟩) m cap]).run P (w.drew.alloc (.cells ROW e)) = .ok (goInt m) ((w.drew.alloc (.cells ROW e)).setRow w.heap.size (splice ROW.toList (j * i.size) Y).toArray) := fun ty dc => by
  have hmin : Nat.min m (n + m - j) = m := Nat.min_eq_left (by omega)
  have h := qt4 (P := P) (w := w.drew.alloc (.cells ROW e)) (sT := t) (ty := ty) ht hi (g := w.heap.size) (o := j * i.size) (dn := n + m - j) (dc := dc) (a := ⟨g', 0, none⟩) (sn := m) (sc := cap) (cs := Y) hW1 (by rw [hmin, hYl]) (fun k v hk => by
   rw [Addr.add_mid, Nat.zero_add];exact (qc4 (hO g' hgl' _ hg') k).trans (hYg k v hk)) (by rw [hYl, hRs]; omega) hYm
  rwa [hmin] at h
 have hcpB : ∀ ty dc sc, (Builtin.copy_ #[t, t] ty #[.slice (some ⟨w.heap.size, (j + m) * i.size, none⟩) (n + m - (j + m)) dc, .slice (some ⟨g, j * i.size, none⟩) (n - j) sc]).run P ((w.drew.alloc (.cells ROW e)).setRow w.heap.size (splice ROW.toList (j * i.size) Y).toArray).drew = (.ok (goInt ((n - j : Nat) : Int)) (w.drew.drew.alloc (.cells (A ++ Y ++ B ++ ROW.toList.drop ((n + m) * i.size)).toArray e))) := fun ty dc sc => by
  have hmin : Nat.min (n - j) (n + m - (j + m)) = n - j := by simp only [Nat.min_def]; split <;> omega
  have h := qt4 (P := P) (w := ((w.drew.alloc (.cells ROW e)).setRow w.heap.size (splice ROW.toList (j * i.size) Y).toArray).drew) (sT := t) (ty := ty) ht hi (g := w.heap.size) (o := (j + m) * i.size) (dn := n + m - (j + m)) (dc := dc) (a := ⟨g, j * i.size, none⟩) (sn := n - j) (sc := sc) (cs := B) (setRow_heap _ _ _ _ _ _ hW1) (by rw [hmin, hBl]) (fun k v hk => by
   rw [Addr.add_mid]
   exact (qc4 ((setRow_other _ _ _ _ (by omega)).trans (hO g hgl _ hg)) _).trans (hBg k v hk)) (by
    have e0 : (splice ROW.toList (j * i.size) Y).toArray.size = G * i.size := by rw [List.size_toArray, qc8 _ _ _ (by rw [hYl, Array.length_toList, hRs]; omega), Array.length_toList, hRs]
    rw [e0, hBl];omega) hBm
  rw [hmin] at h;rw [h, qxL, setRow_setRow];have e1 : (w.drew.alloc (.cells ROW e)).drew = w.drew.drew.alloc (.cells ROW e) := rfl;have e2 : w.heap.size = w.drew.drew.heap.size := rfl;rw [e1, e2, quP]
  congr 4
  rw [List.toList_toArray, hjm, qlX hYl.symm (by rw [hYl, hBl, Array.length_toList, hRs]; omega), hYl, hBl, hnm]
  congr 3
  rw [hROW];simp [← hAl]
 have hGi : ¬ (G = j) := by omega
 have hGim : ¬ (G = j + m) := by omega
 have hci : ¬ (c = j) := by omega
 have hG63 : G<=9223372036854775807 := by unfold maxLen at hGm; omega
 have hb1 : (0 : Int)<=(j : Int) + (m : Int) := by omega
 have hin : j<=n := by omega
 have htn : ((j : Int) + (m : Int)).toNat = j + m := by omega
 have hb3 : (j : Int)<=(n : Int) := by omega
 have hzl : ∃ zs, ROW.toList.drop ((n + m) * i.size) = zs/\zs.length = (G - (n + m)) * i.size/\∀ (j : Nat) v, zs[j]? = some v->v.oneCell' = true := by
  refine ⟨_, rfl, ?_, ?_⟩
  ·rw [List.length_drop, Array.length_toList, hRs, Nat.sub_mul]
  ·intro k v hk
   rw [List.getElem?_drop, hROW] at hk;have hmem := List.mem_of_getElem? hk;simp only [Array.toList_append, List.mem_append] at hmem;rcases hmem with (h | h) | h
   ·exact hAm v h
   ·obtain ⟨q, hq⟩ := List.getElem?_of_mem h
    exact qh3 hz1 _ q v hq
   ·obtain ⟨q, hq⟩ := List.getElem?_of_mem h
    exact qh3 hz1 _ q v hq
 obtain ⟨zs, hzs1, hzs2, hzs3⟩ := hzl;rw [hzs1] at hcpB;have hD : w.drew.alloc (.cells ROW e) = (w.alloc (.cells ROW e)).drew := rfl;rw [hD] at hcpA hcpB
 clear hA hY hB hkk hik hold hROW hG hRs hjm hnm hGs hzs1 hW1 hO hAg hYg hBg hAl hYl hBl hnj hlt hjs hnc2 hmc2
 refine calls_of_wp hf hb ?_
 rw [hnt];simp only [List.size_toArray, List.length_cons, List.length_nil, Nat.reduceAdd, Nat.reduceSub, Array.replicate_succ, Array.replicate_zero, List.push_toArray, List.append_toArray, List.nil_append, List.cons_append];unfold qeQ
 go_wp2_with (first
  | (at_builtin; refine Lib.wpList_append_run _ rfl _ _ _ _ rfl _ _ rfl rfl _ _ (hrz _) ?_)
  | (at_builtin; refine wpList_copy_at _ rfl _ _ t t rfl _ _ rfl rfl (hcpA _ _) ?_))
 go_region_law_o (refine qiK rfl _ _ t t rfl (.slice (some ⟨w.heap.size, (j + m) * i.size, none⟩) (n + m - (j + m)) (G - (j + m))) (.slice (some ⟨g, j * i.size, none⟩) (n - j) (c - j)) (by simp [Act.eval, Act.put]) (by simp [Act.eval, Act.put]) (hcpB ti (G - (j + m)) (c - j)) ?_)
 go_wp2
 refine qo0 hres rfl ⟨G, zs, rfl, hGn, hGm, hzs2, hzs3, ?_⟩;rw [List.append_assoc, List.append_assoc];rfl
theorem zi2 {fo : FuncId} {t tb e : TypeId} {i : TypeInfo} (hfo : qpD P t tb fo) (ht : P.underlying t = some (.slice e)) (hi : P.info? e = some i) {w : World} {g g' o m cap : Nat} {cur cur' : Array Value} {te te' : TypeId}
  (hg : w.heap[g]? = some (.cells cur te (0, 0))) (hc : cur.size ≠ 0) (hg' : w.heap[g']? = some (.cells cur' te' (0, 0))) (hne : g' ≠ g) (lb cb : Nat) :
  (callFunc fo #[.slice (some ⟨g', 0, none⟩) m cap, .slice (some ⟨g, o, none⟩) lb cb]).run P w = .ok (.value (.bool false)) w := by
 obtain ⟨fn, hf, h1, h2, h3, h4⟩ := zi1 hfo
 rw [run_callFunc_extern hf h1 h2 h3 h4,
  Lib.run_overlaps_apart w t tb e ht i.size (fun w => qd0 hi) ⟨g', 0, none⟩ ⟨g, o, none⟩ m cap lb cb hne te' te cur'.size cur.size (by simp [World.shape?, hg']) (by simp [World.shape?, hg]) hc (by simp [World.frozen?, hg']) (by simp [World.frozen?, hg'])]
 rfl
set_option maxHeartbeats 4000000 in
set_option maxRecDepth 100000 in
theorem zu1 {f fo fr : FuncId} {t ti tb e : TypeId} {i : TypeInfo} (hfn : qnL P f 95 6 (qeQ t ti tb fo fr)) (hfo : qpD P t tb fo) (ht : P.underlying t = some (.slice e)) (hti : P.underlying ti = some (.int .i64)) (hi : P.info? e = some i) (hs0 : 0 < i.size) (mixed : P.follows .mixedOrders = true)
  {w : World} {j n c m cap g g' : Nat} {cur cur' : Array Value} {te te' : TypeId} (hm : 0 < m) (hj : j < n) (hroom : n + m<=c) (hml : c<=maxLen) (hne : g' ≠ g)
  (hg : w.heap[g]? = some (.cells cur te (0, 0))) (hc : cur.size = c * i.size) (hg' : w.heap[g']? = some (.cells cur' te' (0, 0))) (hc' : cur'.size = cap * i.size) (hmc : m<=cap) (h1 : ∀ v ∈ cur.toList, v.oneCell' = true) (h1' : ∀ v ∈ cur'.toList, v.oneCell' = true) :
  Calls P f #[.slice (some ⟨g, 0, none⟩) n c, .int .i64 j, .slice (some ⟨g', 0, none⟩) m cap] w fun en w' => en = .returned (.slice (some ⟨g, 0, none⟩) (n + m) c) ∧
   w' = w.drew.setRow g (cur.toList.take (j * i.size) ++ cur'.toList.take (m * i.size) ++ (cur.toList.drop (j * i.size)).take ((n - j) * i.size) ++ cur.toList.drop ((n + m) * i.size)).toArray := by
 obtain ⟨fn, hf, hnt, hres, hb, hent⟩ := qn8 hfn;have hz0 : ¬ ((m : Int) = 0) := by omega
 have hz2 : ¬ ((j : Int) = (n : Int)) := by omega
 have u : ∀ w, Sem.run P (underlying t) w = .ok (TypeDesc.slice e) w := run_underlying ht;have ui : ∀ w, Sem.run P (underlying ti) w = .ok (TypeDesc.int .i64) w := run_underlying hti;have sz : ∀ w, Sem.run P (sizeOf e) w = .ok i.size w := fun w => qd0 hi
 have hw1 : IntKind.i64.wrap ((j : Int) + (m : Int)) = (j : Int) + (m : Int) := by unfold maxLen at hml; rw [IntKind.wrap_i64]; omega
 have hw2 : IntKind.i64.wrap ((n : Int) + (m : Int)) = (n : Int) + (m : Int) := by unfold maxLen at hml; rw [IntKind.wrap_i64]; omega
 have hnc : n<=c := by omega
 have hlt : (j + 1) * i.size<=n * i.size := Nat.mul_le_mul_right _ hj;have hnc2 : n * i.size<=c * i.size := Nat.mul_le_mul_right _ hnc;have hmc2 : m * i.size<=cap * i.size := Nat.mul_le_mul_right _ hmc;have hjs : j * i.size<=n * i.size := Nat.mul_le_mul_right _ (by omega);have hnj : j * i.size + (n - j) * i.size = n * i.size := by rw [← Nat.add_mul]; congr 1; omega
 have hgl : g < w.heap.size := (Array.getElem?_eq_some_iff.1 hg).1;have hgl' : g' < w.heap.size := (Array.getElem?_eq_some_iff.1 hg').1;obtain ⟨A, hA⟩ : ∃ A, A = cur.toList.take (j * i.size) := ⟨_, rfl⟩;obtain ⟨Y, hY⟩ : ∃ Y, Y = cur'.toList.take (m * i.size) := ⟨_, rfl⟩;obtain ⟨B, hB⟩ : ∃ B, B = (cur.toList.drop (j * i.size)).take ((n - j) * i.size) := ⟨_, rfl⟩;have hAl : A.length = j * i.size := by rw [hA, List.length_take, Array.length_toList]; omega
 have hYl : Y.length = m * i.size := by rw [hY, List.length_take, Array.length_toList]; omega
 have hBl : B.length = (n - j) * i.size := by rw [hB, List.length_take, List.length_drop, Array.length_toList]; omega
 have hAm : ∀ v ∈ A, v.oneCell' = true := fun v hv => h1 v (by rw [hA] at hv; exact List.mem_of_mem_take hv)
 have hYm : ∀ v ∈ Y, v.oneCell' = true := fun v hv => h1' v (by rw [hY] at hv; exact List.mem_of_mem_take hv)
 have hBm : ∀ v ∈ B, v.oneCell' = true := fun v hv => h1 v (by rw [hB] at hv; exact List.mem_of_mem_drop (List.mem_of_mem_take hv))
 have hAg : ∀ (k : Nat) v, A[k]? = some v->cur[k]? = some v := fun k v h => by
  rw [hA, List.getElem?_take] at h;split at h
  ·simpa using h
  ·cases h
 have hYg : ∀ (k : Nat) v, Y[k]? = some v->cur'[k]? = some v := fun k v h => by
  rw [hY, List.getElem?_take] at h;split at h
  ·simpa using h
  ·cases h
 have hBg : ∀ (k : Nat) v, B[k]? = some v->cur[j * i.size + k]? = some v := fun k v h => by
  rw [hB, List.getElem?_take] at h;split at h
  ·rw [List.getElem?_drop] at h
   simpa using h
  ·cases h
 rw [← hA, ← hY, ← hB]
 have hov : ∀ lb cb, (callFunc fo #[.slice (some ⟨g', 0, none⟩) m cap, .slice (some ⟨g, (j + m) * i.size, none⟩) lb cb]).run P w = .ok (.value (.bool false)) w := fun lb cb =>
  zi2 hfo ht hi hg (by rw [hc]; have : i.size<=c * i.size := Nat.le_mul_of_pos_left _ (by omega); omega) hg' hne lb cb
 have hnm : j * i.size + m * i.size + (n - j) * i.size = (n + m) * i.size := by rw [← Nat.add_mul, ← Nat.add_mul]; congr 1; omega
 have hjm : (j + m) * i.size = j * i.size + m * i.size := Nat.add_mul _ _ _;have hcs : (n + m) * i.size<=c * i.size := Nat.mul_le_mul_right _ hroom
 have hcpA : ∀ ty dc sc, (Builtin.copy_ #[t, t] ty #[.slice (some ⟨g, (j + m) * i.size, none⟩) (n + m - (j + m)) dc, .slice (some ⟨g, j * i.size, none⟩) (n + m - j) sc]).run P w.drew = .ok (goInt ((n - j : Nat) : Int)) (w.drew.setRow g (splice cur.toList ((j + m) * i.size) B).toArray) := fun ty dc sc => by
  have hmin : Nat.min (n + m - j) (n + m - (j + m)) = n - j := by simp only [Nat.min_def]; split <;> omega
  have h := qt4 (P := P) (w := w.drew) (sT := t) (ty := ty) ht hi (g := g) (o := (j + m) * i.size) (dn := n + m - (j + m)) (dc := dc) (a := ⟨g, j * i.size, none⟩) (sn := n + m - j) (sc := sc) (cs := B) hg (by rw [hmin, hBl]) (fun k v hk => by
   rw [Addr.add_mid];exact (qc4 (w := w.drew) hg _).trans (hBg k v hk)) (by rw [hBl, hc]; omega) hBm
  rwa [hmin] at h
 have hcpB : ∀ ty dc, (Builtin.copy_ #[t, t] ty #[.slice (some ⟨g, j * i.size, none⟩) (n + m - j) dc, .slice (some ⟨g', 0, none⟩) m cap]).run P (w.drew.setRow g (splice cur.toList ((j + m) * i.size) B).toArray) = .ok (goInt m) (w.drew.setRow g (A ++ Y ++ B ++ cur.toList.drop ((n + m) * i.size)).toArray) := fun ty dc => by
  have hmin : Nat.min m (n + m - j) = m := Nat.min_eq_left (by omega)
  have h := qt4 (P := P) (w := w.drew.setRow g (splice cur.toList ((j + m) * i.size) B).toArray) (sT := t) (ty := ty) ht hi (g := g) (o := j * i.size) (dn := n + m - j) (dc := dc) (a := ⟨g', 0, none⟩) (sn := m) (sc := cap) (cs := Y) (setRow_heap w.drew g cur _ te (0, 0) hg) (by rw [hmin, hYl]) (fun k v hk => by
   rw [Addr.add_mid, Nat.zero_add]
   exact (qc4 ((setRow_other w.drew g g' _ hne).trans hg') k).trans (hYg k v hk)) (by
    have e0 : (splice cur.toList ((j + m) * i.size) B).toArray.size = c * i.size := by rw [List.size_toArray, qc8 _ _ _ (by rw [hBl, Array.length_toList, hc]; omega), Array.length_toList, hc]
    rw [e0, hYl];omega) hYm
  rw [hmin] at h;rw [h, setRow_setRow, List.toList_toArray, hjm, zi0 hYl.symm (by rw [hYl, hBl, Array.length_toList, hc]; omega), hYl, hBl, hnm, ← hA]
 have hci : ¬ (c = j) := by omega
 have hcim : ¬ (c = j + m) := by omega
 have hb1 : (0 : Int)<=(j : Int) + (m : Int) := by omega
 have hin : j<=n := by omega
 have htn : ((j : Int) + (m : Int)).toNat = j + m := by omega
 have hb3 : (j : Int)<=(n : Int) := by omega
 have hb4 : (j : Int)<=(n : Int) + (m : Int) := by omega
 have hb5 : ¬ ((c : Int) < (n : Int) + (m : Int)) := by omega
 obtain ⟨R, hR⟩ : ∃ R, R = cur.toList.drop ((n + m) * i.size) := ⟨_, rfl⟩;rw [← hR] at hcpB ⊢
 clear hA hY hB hjm hnm hAg hYg hBg hAl hYl hBl hnj hlt hjs hnc2 hmc2 hcs hR
 refine calls_of_wp hf hb ?_
 rw [hnt];simp only [List.size_toArray, List.length_cons, List.length_nil, Nat.reduceAdd, Nat.reduceSub, Array.replicate_succ, Array.replicate_zero, List.push_toArray, List.append_toArray, List.nil_append, List.cons_append];unfold qeQ
 go_wp2_with (simp only [hov])
 go_region_law_o (refine qiK rfl _ _ t t rfl _ _ (by simp [Act.eval, Act.put]) (by simp [Act.eval, Act.put]) (hcpA _ _ _) ?_)
 go_wp2_with (at_builtin; refine wpList_copy_at _ rfl _ _ t t rfl _ _ rfl rfl (hcpB _ _) ?_)
 exact qo0 hres rfl ⟨rfl, by simp only [List.append_assoc]⟩
end
open Go.Lib
section
variable {P : Program} {J : Id->JI} {F : Nat->Prop} {w : World} {H : Hp}
theorem qu9 (hH : HRel J F w H) {s : Nat} {x : AV} {bo : Option Id} {es : List (List DV)} (h : qx0 H s x = some (bo, es)) {v : Value} (hv : VRel J F w x v) :
  (es = []/\∃ p, v = .slice p 0 0)\/(es ≠ []/\∃ b g c cur e, bo = some b/\x = .row b s 0 es.length/\H b = some (.row s es)/\v = .slice (some ⟨g, 0, none⟩) es.length c/\J b = .live (some g) true s c/\w.heap[g]? = some (.cells cur e (0, 0))/\cur.size = c * s/\es.length<=c/\c<=maxLen/\Grid F w s es cur.toList) ∨
   (es = []/\∃ b g c cur e, bo = some b/\x = .row b s 0 0/\H b = some (.row s [])/\v = .slice (some ⟨g, 0, none⟩) 0 c/\J b = .live (some g) true s c/\w.heap[g]? = some (.cells cur e (0, 0))/\cur.size = c * s/\c<=maxLen) := by
 cases x <;> simp only [qx0, reduceCtorEq] at h
 ·rename_i d
  cases d <;> simp only [reduceCtorEq, Option.some.injEq, Prod.mk.injEq] at h
  obtain ⟨rfl, rfl⟩ := h;have hv := hv.inv_val;cases hv;exact .inl ⟨rfl, _, rfl⟩
 ·rename_i b s1 o n
  split at h
  ·rename_i s3 es' hb
   split at h
   ·rename_i hc
    simp only [Option.some.injEq, Prod.mk.injEq] at h;obtain ⟨rfl, rfl⟩ := h;obtain ⟨rfl, rfl, rfl, rfl⟩ := hc;by_cases h0 : es' = []
    ·subst h0
     cases hH.blk _ _ hb with
     | row _ _ g c cur e hJ hg hs hn hm hel hc h1 =>
      cases hv with
      | row _ _ _ g' own' _ cap hJ' hc' =>
       rw [hJ] at hJ'; cases hJ';exact .inr (.inr ⟨rfl, b, g, c, cur, e, rfl, rfl, hb, by rw [Nat.zero_mul, Nat.sub_zero]; rfl, hJ, hg, hs, hm⟩)
      | rowNil _ _ _ _ _ hJ' => rw [hJ] at hJ'; cases hJ'
      | rowEnd _ _ _ _ _ _ _ ho => exact absurd rfl ho
      | rowDead _ _ _ _ _ _ hJ' => rw [hJ] at hJ'; cases hJ'
     | rowNil _ _ hJ =>
      cases hv with
      | row _ _ _ g' own' _ cap hJ' hc' => rw [hJ] at hJ'; cases hJ'
      | rowNil _ _ _ _ p hJ' => exact .inl ⟨rfl, _, rfl⟩
      | rowEnd _ _ _ _ _ _ _ ho => exact absurd rfl ho
      | rowDead _ _ _ _ _ _ hJ' => rw [hJ] at hJ'; cases hJ'
    ·obtain ⟨g, c, cur, e, q1, q2, q3, q4, q5, q6, q7⟩ := own_row hH hb hv h0
     exact .inr (.inl ⟨h0, b, g, c, cur, e, rfl, rfl, hb, q1, q2, q3, q4, q5, q6, q7⟩)
   ·cases h
  ·cases h
theorem quQ {s bytes : Nat} {x : AV} {bo : Option Id} {es : List (List DV)} (h : qx0 H s x = some (bo, es)) {ys : List (List DV)} {id : Id} (h1 : (es.length + ys.length) * bytes<=140737488355328) (h2 : es.length + ys.length<=maxLen) :
  qr3 H id s bytes ys x = some (.row id s 0 (es.length + ys.length), qj5 H bo id (.row s (es ++ ys))) := by
 cases x <;> simp only [qx0, reduceCtorEq] at h
 ·rename_i d
  cases d <;> simp only [reduceCtorEq, Option.some.injEq, Prod.mk.injEq] at h
  obtain ⟨rfl, rfl⟩ := h;simp only [List.length_nil, Nat.zero_add] at h1 h2;simp only [qr3, List.length_nil, Nat.zero_add, List.nil_append];rw [if_pos ⟨h1, h2⟩];rfl
 ·rename_i b s1 o n
  split at h
  ·rename_i s3 es' hb
   split at h
   ·rename_i hc
    simp only [Option.some.injEq, Prod.mk.injEq] at h;obtain ⟨rfl, rfl⟩ := h;obtain ⟨rfl, rfl, rfl, rfl⟩ := hc;simp only [qr3, hb];rw [if_pos ⟨trivial, trivial, trivial, Nat.le_refl _, h1, h2⟩, List.take_of_length_le (Nat.le_refl _)];rfl
   ·cases h
  ·cases h
theorem insOk {f fo fr : FuncId} {t ti tb e : TypeId} {s bytes : Nat} (hfn : qnL P f 95 6 (qeQ t ti tb fo fr)) (hfo : qpD P t tb fo) (ht : P.underlying t = some (.slice e)) (hti : P.underlying ti = some (.int .i64)) (he : zh9 P e s bytes = true) (mixed : P.follows .mixedOrders = true) : qj8 P f (qc7 (.ins s bytes)) := by
 obtain ⟨i, zv, z, hi, rfl, rfl, hzv, hz, hzl⟩ := qgB he;refine ⟨(qn8 hfn).choose_spec.2.2.2.2, fun ns avs H x H' hs J F w vs hH hv => ?_⟩
 obtain ⟨vx, j, vy, bo, es, b', ys, rfl, hid, hx, hy, hbb, hys, hj0, hjn, hby, hml, hs0, rfl, rfl⟩ : ∃ vx j vy bo es b' ys, avs = [vx, .val (.int .i64 j), vy]/\H ns = none/\qx0 H i.size vx = some (bo, es)/\qx0 H i.size vy = some (some b', ys)/\bo ≠ some b'/\ys ≠ []/\0<=j/\j<=(es.length : Int)/\(es.length + ys.length) * i.bytes<=70368744177664/\es.length + ys.length<=maxLen/\0 < i.size ∧
   x = .row ns i.size 0 (es.length + ys.length)/\H' = qj5 H bo ns (.row i.size (es.take j.toNat ++ ys ++ es.drop j.toNat)) := by
  unfold qc7 at hs;split at hs
  ·cases hs
  rename_i hid;split at hs <;> first | (cases hs; done) | (rename_i heq; cases heq)
  split at hs
  ·rename_i bo es b' ys h1 h2
   split at hs
   ·rename_i hc
    cases hs;obtain ⟨c1, c2, c3, c4, c5, c6, c7⟩ := hc;exact ⟨_, _, _, bo, es, b', ys, rfl, hid, h1, h2, c1, c2, c3, c4, c5, c6, c7, rfl, rfl⟩
   ·cases hs
  ·cases hs
 obtain ⟨v0, v2, rfl, hv0, hv2⟩ : ∃ v0 v2, vs = [v0, .int .i64 j, v2]/\VRel J F w vx v0/\VRel J F w vy v2 := by
  rcases vs with _ | ⟨v0, _ | ⟨v1, _ | ⟨v2, _ | ⟨v3, vs⟩⟩⟩⟩
  ·cases hv.1
  ·simp at hv
  ·simp at hv
  ·have h1 := (hv.2 1 _ _ rfl rfl : VRel J F w (.val (.int .i64 j)) v1).inv_val
   cases h1;exact ⟨v0, v2, rfl, hv.2 0 _ _ rfl rfl, hv.2 2 _ _ rfl rfl⟩
  ·simp at hv
 have hzr : ∀ (j : Nat) q, zv.cells.toList[j]? = some q->q.oneCell' = true := by
  unfold qr2 at hz;rw [hi] at hz;simp only [hzv] at hz;exact qt1 hz
 have hzs : zv.cells.size = i.size := by
  unfold qr2 at hz;rw [hi] at hz;simp only [hzv] at hz;have := qu6 hz;simp only [Array.length_toList] at this;omega
 have hyl : 0 < ys.length := List.length_pos_iff.2 hys;rcases qu9 hH hy hv2 with ⟨h0, _⟩ | ⟨_, b2, g', cap, cur', te', hb2, rfl, hHb', rfl, hJ', hg', hc', hmc, _, hgr'⟩ | ⟨h0, _⟩
 ·exact absurd h0 hys
 ·cases hb2
  obtain ⟨jn, rfl⟩ : ∃ jn : Nat, j = jn := ⟨j.toNat, by omega⟩;simp only [Int.toNat_natCast];by_cases hjl : jn = es.length
  ·subst hjl
   have hap : qr3 H ns i.size i.bytes ys vx = some (.row ns i.size 0 (es.length + ys.length), qj5 H bo ns (.row i.size (es ++ ys))) := quQ hx (Nat.le_trans hby (by omega)) hml
   have hel : elems H i.size (.row b' i.size 0 ys.length) = some ys := by
    simp only [elems, hHb'];simp
   obtain ⟨news, hsrc⟩ := qfJ (P := P) hH hv2 hel;obtain ⟨v', w', J', hrun, r1, r2, r3⟩ := qbN (ty := t) hH ht hi hzv hz hzl ht (.inl ⟨e, rfl⟩) hid hv0 hsrc hap;have e1 : es.take es.length ++ ys ++ es.drop es.length = es ++ ys := by simp
   rw [e1]
   have done : ∀ p c, v0 = .slice p es.length c->es.length<=c->Calls P f #[v0, .int .i64 (es.length : Int), .slice (some ⟨g', 0, none⟩) ys.length cap] w fun en w' => ∃ v' J' F', en = .returned v'/\VRel J' F' w' (.row ns i.size 0 (es.length + ys.length)) v'/\HRel J' F' w' (qj5 H bo ns (.row i.size (es ++ ys)))/\Ext J F w J' F' w' := by
    rintro p c rfl hcl;exact (ins_end hfn ht hti (fun w => qd0 hi) hyl hcl hrun).mono fun en w2 h => ⟨v', J', F, h.1, h.2 ▸ r1, h.2 ▸ r2, h.2 ▸ r3⟩
   rcases qu9 hH hx hv0 with ⟨rfl, p, rfl⟩ | ⟨_, b, g, c, cur, te, _, _, _, rfl, _, _, _, hcl, _⟩ | ⟨rfl, b, g, c, cur, te, _, _, _, rfl, _⟩
   ·exact done p 0 rfl (Nat.le_refl _)
   ·exact done _ c rfl hcl
   ·exact done _ c rfl (Nat.zero_le _)
  ·have hlt : jn < es.length := by omega
   rcases qu9 hH hx hv0 with ⟨rfl, _⟩ | ⟨hes, b, g, c, cur, te, rfl, rfl, hb, rfl, hJ, hg, hc, hcl, hcm, hgr⟩ | ⟨rfl, _⟩
   ·simp at hlt
   ·have hbn : b ≠ b' := fun h => hbb (by rw [h])
    have hgn : g' ≠ g := fun h => hbn (hH.inj _ _ _ _ _ _ _ _ _ hJ (h ▸ hJ'))
    obtain ⟨ga, gal⟩ := hgr.take jn (by omega);obtain ⟨gb, gbl⟩ := hgr.drop jn (by omega);obtain ⟨gy, gyl⟩ := hgr'.take ys.length (Nat.le_refl _);rw [List.take_of_length_le (Nat.le_refl _)] at gy gyl;obtain ⟨gay, gayl⟩ := ga.append gal gy gyl;obtain ⟨gg, ggl⟩ := gay.append gayl gb gbl;have hlen : (es.take jn ++ ys ++ es.drop jn).length = es.length + ys.length := by simp; omega
    have hone : ∀ v ∈ cur.toList, v.oneCell' = true := qw8 hgr.one;have hone' : ∀ v ∈ cur'.toList, v.oneCell' = true := qw8 hgr'.one;have hne : ns ≠ b := fun e => by rw [e, hb] at hid; cases hid
    rw [hlen] at ggl;by_cases hroom : c < es.length + ys.length
    ·refine (ins_grow hfn ht hti hi hzv hs0 hzs hzr mixed hyl hlt hcl hroom hby hml hg hc hg' hc' hmc hone hone').mono ?_
     rintro en w2 ⟨G, zs, rfl, hG1, hG2, hzl2, hz1, rfl⟩;obtain ⟨k1, k2⟩ := kill hH b hb
     have hsz : (cur.toList.take (jn * i.size) ++ cur'.toList.take (ys.length * i.size) ++ (cur.toList.drop (jn * i.size)).take ((es.length - jn) * i.size) ++ zs).toArray.size = G * i.size := by
      rw [List.size_toArray, List.length_append, ggl, hzl2, ← Nat.add_mul]
      congr 1
      omega
     have gall := ((gg.more (by rw [ggl, hlen]) hz1).world (w' := w.drew.drew) fun d v h => h.mono (fun _ h => h) (fun _ _ => rfl));obtain ⟨J2, q1, q2, q3⟩ := qkO (e := e) (id := ns) (cap := G) (cur := (cur.toList.take (jn * i.size) ++ cur'.toList.take (ys.length * i.size) ++ (cur.toList.drop (jn * i.size)).take ((es.length - jn) * i.size) ++ zs).toArray) k1.drew.drew (by rw [qc1 _ _ hne]; exact hid) (by rw [List.toList_toArray]; exact gall) hsz (by rw [hlen]; exact hG1) hG2;rw [hlen] at q3;exact ⟨_, J2, F, rfl, q3, q1, ((k2.trans (qh9 _ _ _)).trans (qh9 _ _ _)).trans q2⟩
    ·have hroom' : es.length + ys.length<=c := by omega
     have hcl2 : cur.toList.length = c * i.size := by rw [Array.length_toList]; exact hc
     refine (zu1 hfn hfo ht hti hi hs0 mixed hyl hlt hroom' hcm hgn hg hc hg' hc' hmc hone hone').mono ?_
     rintro en w2 ⟨rfl, rfl⟩;obtain ⟨r1, r2⟩ := qzA hH hb hJ hid
     have hrest : ∀ (k : Nat) v, (cur.toList.drop ((es.length + ys.length) * i.size))[k]? = some v->v.oneCell' = true := fun k v h => by
      rw [List.getElem?_drop] at h;exact hgr.one _ v h
     have gall := gg.more (by rw [ggl, hlen]) hrest;have hcs : (es.length + ys.length) * i.size<=c * i.size := Nat.mul_le_mul_right _ hroom'
     obtain ⟨q1, q2⟩ := qgS (b := ns) r1.drew (qa6 _ _ _) (cur' := (cur.toList.take (jn * i.size) ++ cur'.toList.take (ys.length * i.size) ++ (cur.toList.drop (jn * i.size)).take ((es.length - jn) * i.size) ++ cur.toList.drop ((es.length + ys.length) * i.size)).toArray) (e := te) hg (.row i.size (es.take jn ++ ys ++ es.drop jn)) (by
      intro hV hR hg2;refine .row i.size _ g c _ te (qa6 _ _ _) hg2 ?_ (by rw [hlen]; exact hroom') hcm gall.el ?_ ?_
      ·rw [List.size_toArray, List.length_append, ggl, List.length_drop, hcl2]
       omega
      ·intro k j x d q h2 h3 h4
       exact hR d q ((gall.rep k j x d q h2 h3 (by simpa using h4)).mono (fun _ h => h) (fun _ _ => rfl))
      ·intro j q h2
       exact gall.one j q (by simpa using h2))
     have e2 : upd (upd (upd H b (some .dead)) ns (some (.row i.size es))) ns (some (.row i.size (es.take jn ++ ys ++ es.drop jn))) = upd (upd H b (some .dead)) ns (some (.row i.size (es.take jn ++ ys ++ es.drop jn))) := by
      funext k
      simp only [upd];split <;> rfl
     rw [e2] at q1;refine ⟨_, _, F, rfl, ?_, q1, (r2.trans (qh9 _ _ _)).trans q2⟩;have := VRel.row (J := qaA (qaA J b .dead) ns (.live (some g) true i.size c)) (F := F) (w := w.drew.setRow g (cur.toList.take (jn * i.size) ++ cur'.toList.take (ys.length * i.size) ++ (cur.toList.drop (jn * i.size)).take ((es.length - jn) * i.size) ++ cur.toList.drop ((es.length + ys.length) * i.size)).toArray) ns 0 (es.length + ys.length) g true i.size c (qa6 _ _ _) (by omega)
     rwa [Nat.zero_mul, Nat.sub_zero] at this
   ·simp at hlt
 ·exact absurd h0 hys
end
open Go.Lib
def qlY (t ti tb : TypeId) : Code := (.seq (.region 0 #[(.mk (some 6) (.assign (.const (.slice none 0 0))) t "slices.go:224" #[] none)] false) (.seq (.region 1 #[(.mk (some 8) (.move (.tmp 0)) t "slices.go:225" #[] none), (.mk (some 9) (.move (.tmp 1)) ti "slices.go:225" #[] none), (.mk (some 10) (.move (.tmp 2)) ti "slices.go:225" #[] none), (.mk (some 11) (.move (.tmp 0)) t "slices.go:225" #[] none), (.mk (some 12) (.call (.mk (.builtin .len) #[(.tmp 11)] #[t])) ti "slices.go:225" #[(.mk 3 .data)] none), (.mk (some 13) (.slice t (.tmp 8) (some (.tmp 9)) (some (.tmp 10)) (some (.tmp 12))) t "slices.go:225" #[(.mk 0 .data), (.mk 1 .data), (.mk 2 .data), (.mk 4 .data)] none)] false) (.seq (.seq (.region 2 #[(.mk (some 14) (.move (.tmp 1)) ti "slices.go:227" #[] none), (.mk (some 15) (.move (.tmp 2)) ti "slices.go:227" #[] none), (.mk (some 16) (.binOp .eql ti (.tmp 14) (.tmp 15) ti) tb "slices.go:227" #[(.mk 0 .data), (.mk 1 .data)] none)] false) (.cond (.tmp 16) (.seq (.region 3 #[(.mk (some 17) (.move (.tmp 0)) t "slices.go:228" #[] none), (.mk (some 6) (.assign (.tmp 17)) t "slices.go:228" #[(.mk 0 .data), (.mk 0 .phase)] none)] false) .ret) .skip)) (.seq (.region 4 #[(.mk (some 18) (.move (.tmp 0)) t "slices.go:231" #[] none), (.mk (some 19) (.call (.mk (.builtin .len) #[(.tmp 18)] #[t])) ti "slices.go:231" #[(.mk 0 .data)] none), (.mk (some 7) (.assign (.tmp 19)) ti "slices.go:231" #[(.mk 1 .data), (.mk 0 .phase), (.mk 1 .phase)] none)] false) (.seq (.region 5 #[(.mk (some 20) (.move (.tmp 0)) t "slices.go:232" #[] none), (.mk (some 21) (.move (.tmp 1)) ti "slices.go:232" #[] none), (.mk (some 22) (.slice t (.tmp 20) none (some (.tmp 21)) none) t "slices.go:232" #[(.mk 0 .data), (.mk 1 .data)] none), (.mk (some 23) (.move (.tmp 0)) t "slices.go:232" #[] none), (.mk (some 24) (.move (.tmp 2)) ti "slices.go:232" #[] none), (.mk (some 25) (.slice t (.tmp 23) (some (.tmp 24)) none none) t "slices.go:232" #[(.mk 3 .data), (.mk 4 .data)] none), (.mk (some 26) (.call (.mk (.builtin .append) #[(.tmp 22), (.tmp 25)] #[t, t])) t "slices.go:232" #[(.mk 2 .data), (.mk 5 .data)] none), (.mk (some 0) (.assign (.tmp 26)) t "slices.go:232" #[(.mk 6 .data), (.mk 6 .chain), (.mk 0 .phase), (.mk 1 .phase), (.mk 2 .phase), (.mk 3 .phase), (.mk 4 .phase), (.mk 5 .phase), (.mk 6 .phase)] none)] true) (.seq (.region 6 #[(.mk (some 27) (.move (.tmp 0)) t "slices.go:233" #[] none), (.mk (some 28) (.move (.tmp 0)) t "slices.go:233" #[] none), (.mk (some 29) (.call (.mk (.builtin .len) #[(.tmp 28)] #[t])) ti "slices.go:233" #[(.mk 1 .data)] none), (.mk (some 30) (.move (.tmp 7)) ti "slices.go:233" #[] none), (.mk (some 31) (.slice t (.tmp 27) (some (.tmp 29)) (some (.tmp 30)) none) t "slices.go:233" #[(.mk 0 .data), (.mk 2 .data), (.mk 3 .data)] none), (.mk none (.call (.mk (.builtin .clear) #[(.tmp 31)] #[t])) 0 "slices.go:233" #[(.mk 4 .data)] none)] false) (.seq (.region 7 #[(.mk (some 32) (.move (.tmp 0)) t "slices.go:234" #[] none), (.mk (some 6) (.assign (.tmp 32)) t "slices.go:234" #[(.mk 0 .data), (.mk 0 .phase)] none)] false) .ret)))))))
section
variable {P : Program}
theorem quR (w : World) {o : Oper} {a : Act} {K : Act->World->Prop} {Q : Exit->Act->World->Prop} (d s : Operand) (t t' : TypeId)
  (ho : o.op = .call { callee := .builtin .append, args := #[d, s], argTypes := #[t, t'] }) (v u : Value) (hd : a.eval d = v) (hs : a.eval s = u) {v' : Value} {w' : World}
  (hr : (Builtin.append_ #[t, t'] o.type #[v, u]).run P w = .ok v' w') (h : K (a.put o.dst v') w') : o.wp P a w K Q := by
 unfold Oper.wp execOp;simp only [ho, resolve, invoke, builtin, Sem.run_bind, Sem.run_pure, Result.andThen_ok, List.map_toArray, List.map_cons, List.map_nil, hd, hs, hr];exact h
theorem qnS {ops : Array Oper} {o : Oper} {a : Act} {w : World} {K : Act->World->Prop} {Q : Exit->Act->World->Prop} {E : Prop}
  (hg : o.guard = none) (d x : Operand) (dT sT : TypeId) (hop : o.op = Op.call { callee := Callee.builtin Builtin.append, args := #[d, x], argTypes := #[dT, sT] })
  (v u : Value) (hd : a.eval d = v) (hx : a.eval x = u) {v' : Value} {w' : World} (hr : (Builtin.append_ #[dT, sT] o.type #[v, u]).run P w = .ok v' w') (hK : K (a.put o.dst v') w') :
  if Region.wanted o (yielded ops a.tmps) = true then Oper.wp P o a w K Q else E := by
 have hw : Region.wanted o (yielded ops a.tmps) = true := by simp [Region.wanted, hg]
 rw [if_pos hw];exact quR w d x dT sT hop v u hd hx hr hK
theorem qrC {f : FuncId} {t ti tb e : TypeId} {i : TypeInfo} (hfn : qnL P f 33 6 (qlY t ti tb)) (ht : P.underlying t = some (.slice e)) (hti : P.underlying ti = some (.int .i64)) (hi : P.info? e = some i)
  {w : World} {p : Option Addr} {j n c : Nat} (hj : j<=n) (hnc : n<=c) (hp : p = none->n = 0/\c = 0) :
  Calls P f #[.slice p n c, .int .i64 j, .int .i64 j] w fun e w' => e = .returned (.slice p n c)/\w' = w := by
 obtain ⟨fn, hf, hnt, hres, hb, hent⟩ := qn8 hfn;have u : ∀ w, Sem.run P (underlying t) w = .ok (TypeDesc.slice e) w := run_underlying ht;have ui : ∀ w, Sem.run P (underlying ti) w = .ok (TypeDesc.int .i64) w := run_underlying hti;have sz : ∀ w, Sem.run P (sizeOf e) w = .ok i.size w := fun w => qd0 hi
 have hjc : j<=c := by omega
 refine calls_of_wp hf hb ?_
 rw [hnt];simp only [List.size_toArray, List.length_cons, List.length_nil, Nat.reduceAdd, Nat.reduceSub, Array.replicate_succ, Array.replicate_zero, List.push_toArray, List.append_toArray, List.nil_append, List.cons_append];unfold qlY;cases p with
 | none =>
  obtain ⟨rfl, rfl⟩ := hp rfl;have : j = 0 := by omega
  subst this
  go_wp2
  all_goals exact qo0 hres rfl ⟨rfl, rfl⟩
 | some a =>
  go_wp2
  all_goals exact qo0 hres rfl ⟨rfl, rfl⟩
set_option maxHeartbeats 4000000 in
set_option maxRecDepth 100000 in
theorem del_some {f : FuncId} {t ti tb e : TypeId} {i : TypeInfo} {z : Value} (hfn : qnL P f 33 6 (qlY t ti tb)) (ht : P.underlying t = some (.slice e)) (hti : P.underlying ti = some (.int .i64)) (hi : P.info? e = some i) (hz : i.zero = some z) (hzs : z.cells.size = i.size) (hz1 : ∀ (j : Nat) u, z.cells.toList[j]? = some u->u.oneCell' = true) (mixed : P.follows .mixedOrders = true)
  {w : World} {k j n c g : Nat} {cur : Array Value} {te : TypeId} (hkj : k < j) (hj : j<=n) (hnc : n<=c) (hcm : c<=maxLen)
  (hg : w.heap[g]? = some (.cells cur te (0, 0))) (hc : cur.size = c * i.size) (h1 : ∀ v ∈ cur.toList, v.oneCell' = true) :
  Calls P f #[.slice (some ⟨g, 0, none⟩) n c, .int .i64 k, .int .i64 j] w fun en w' => ∃ zs : List Value, en = .returned (.slice (some ⟨g, 0, none⟩) (k + (n - j)) c)/\zs.length + (k + (n - j)) * i.size = c * i.size/\(∀ (j : Nat) v, zs[j]? = some v->v.oneCell' = true) ∧
   w' = w.drew.setRow g (cur.toList.take (k * i.size) ++ (cur.toList.drop (j * i.size)).take ((n - j) * i.size) ++ zs).toArray := by
 obtain ⟨fn, hf, hnt, hres, hb, hent⟩ := qn8 hfn;have u : ∀ w, Sem.run P (underlying t) w = .ok (TypeDesc.slice e) w := run_underlying ht;have ui : ∀ w, Sem.run P (underlying ti) w = .ok (TypeDesc.int .i64) w := run_underlying hti;have sz : ∀ w, Sem.run P (sizeOf e) w = .ok i.size w := fun w => qd0 hi
 have hjs : j * i.size<=n * i.size := Nat.mul_le_mul_right _ hj;have hks : k * i.size<=j * i.size := Nat.mul_le_mul_right _ (by omega);have hncs : n * i.size<=c * i.size := Nat.mul_le_mul_right _ hnc;have hnj : j * i.size + (n - j) * i.size = n * i.size := by rw [← Nat.add_mul]; congr 1; omega
 have hkn : k * i.size + (n - j) * i.size = (k + (n - j)) * i.size := by rw [← Nat.add_mul]
 have hkz : (k + (n - j)) * i.size + (n - (k + (n - j))) * i.size = n * i.size := by rw [← Nat.add_mul]; congr 1; omega
 obtain ⟨B, hB⟩ : ∃ B, B = (cur.toList.drop (j * i.size)).take ((n - j) * i.size) := ⟨_, rfl⟩;have hBl : B.length = (n - j) * i.size := by rw [hB, List.length_take, List.length_drop, Array.length_toList]; omega
 have hBm : ∀ v ∈ B, v.oneCell' = true := fun v hv => h1 v (by rw [hB] at hv; exact List.mem_of_mem_drop (List.mem_of_mem_take hv))
 have hBg : ∀ (k : Nat) v, B[k]? = some v->cur[j * i.size + k]? = some v := fun k v h => by
  rw [hB, List.getElem?_take] at h;split at h
  ·rw [List.getElem?_drop] at h
   simpa using h
  ·cases h
 rw [← hB]
 obtain ⟨A, hA, hAs⟩ : ∃ A : Addr, (if c = j then some (⟨g, 0, none⟩ : Addr) else some ⟨g, j * i.size, none⟩) = some A/\∀ c', qyZ P w.drew i.size (n - j) (.slice (some A) (n - j) c') B := by
  by_cases h : c = j
  ·refine ⟨⟨g, 0, none⟩, by simp [h], fun c' => ?_⟩
   have h0 : n - j = 0 := by omega
   have hB0 : B = [] := List.eq_nil_of_length_eq_zero (by rw [hBl, h0, Nat.zero_mul]);rw [h0, hB0];exact ⟨fun w' _ => ⟨rfl, by simp [Builtin.firstCells, loadCells, loadCellsFrom]⟩, by simp⟩
  ·refine ⟨⟨g, j * i.size, none⟩, by simp [h], fun c' => ⟨fun w' hw => ⟨rfl, ?_⟩, hBl⟩⟩
   exact run_firstCells_some (P := P) w' i.size (n - j) ⟨g, j * i.size, none⟩ (n - j) c' B (by rw [hBl]) (fun q v hv => by
    have e : w'.cell? ⟨g, j * i.size + q, none⟩ = w.drew.cell? ⟨g, j * i.size + q, none⟩ := World.cell?_of_block (by rw [hw])
    rw [Addr.add_mid, e];exact (qc4 (w := w.drew) hg _).trans (hBg q v hv))
 have hfit : k * i.size + B.length<=cur.size := by rw [hBl, hc]; omega
 have hst := run_storeCells_at P g (k * i.size) te B 0 cur w.drew hg (by simpa using hfit) hBm;simp only [Nat.add_zero] at hst;rw [qq9] at hst
 have hap : ∀ ty c', (Builtin.append_ #[t, t] ty #[.slice (some ⟨g, 0, none⟩) k c, .slice (some A) (n - j) c']).run P w.drew = .ok (.slice (some ⟨g, 0, none⟩) (k + (n - j)) c) (w.drew.setRow g (splice cur.toList (k * i.size) B).toArray) := fun ty c' =>
  qeA (P := P) (w := w.drew) (ty := ty) (p := some ⟨g, 0, none⟩) (n := k) (c := c) ht hi ht (.inl ⟨e, rfl⟩) (hAs c') (by omega) (fun b hb => by
   cases hb;rw [Addr.add_mid, Nat.zero_add];exact hst) (fun h => by cases h)
 have hW1 : (w.drew.setRow g (splice cur.toList (k * i.size) B).toArray).heap[g]? = some (.cells (splice cur.toList (k * i.size) B).toArray te (0, 0)) := setRow_heap w.drew g cur _ te (0, 0) hg;have hs1 : (splice cur.toList (k * i.size) B).toArray.size = c * i.size := by rw [List.size_toArray, qc8 _ _ _ (by rw [hBl, Array.length_toList, hc]; omega), Array.length_toList, hc]
 obtain ⟨Z, hZ⟩ : ∃ Z, Z = (Builtin.zeroCells z.cells (n - (k + (n - j)))).toList := ⟨_, rfl⟩;have hZl : Z.length = (n - (k + (n - j))) * i.size := by rw [hZ, Array.length_toList, size_zeroCells, hzs]
 have hcl : ∀ ty c', (Builtin.clear_ #[t] ty #[.slice (some ⟨g, (k + (n - j)) * i.size, none⟩) (n - (k + (n - j))) c']).run P (w.drew.setRow g (splice cur.toList (k * i.size) B).toArray) = .ok (.tuple #[]) (w.drew.setRow g (cur.toList.take (k * i.size) ++ (B ++ (Z ++ cur.toList.drop (n * i.size)))).toArray) := fun ty c' => by
  rw [qdM ht hi hz hzs hz1 hW1 (by omega) (by rw [hs1]; omega), setRow_setRow, List.toList_toArray, ← hZ, ← hkn, ← hBl, qlX rfl (by rw [hBl, hZl, Array.length_toList, hc]; omega), hBl, hZl];have e : k * i.size + (n - j) * i.size + (n - (k + (n - j))) * i.size = n * i.size := by rw [hkn, hkz]
  rw [e, List.append_assoc, List.append_assoc]
 have hzs3 : ∀ (q : Nat) v, (Z ++ cur.toList.drop (n * i.size))[q]? = some v->v.oneCell' = true := fun q v hv => by
  rcases List.mem_append.1 (List.mem_of_getElem? hv) with h | h
  ·rw [hZ] at h
   exact qw8 (qh3 hz1 _) v h
  ·exact h1 v (List.mem_of_mem_drop h)
 have hzs2 : (Z ++ cur.toList.drop (n * i.size)).length + (k + (n - j)) * i.size = c * i.size := by rw [List.length_append, hZl, List.length_drop, Array.length_toList, hc]; omega
 obtain ⟨ZS, hZS⟩ : ∃ ZS, ZS = Z ++ cur.toList.drop (n * i.size) := ⟨_, rfl⟩;obtain ⟨C1, hC1⟩ : ∃ C1, C1 = (splice cur.toList (k * i.size) B).toArray := ⟨_, rfl⟩;obtain ⟨T, hT⟩ : ∃ T, T = cur.toList.take (k * i.size) := ⟨_, rfl⟩;rw [← hZS] at hcl hzs2 hzs3;rw [← hC1] at hap hcl;rw [← hT] at hcl ⊢;have b1 : ¬ (k = j) := by omega
 have b2 : ((k : Int) == (j : Int)) = false := by simp; omega
 have b3 : (k : Int)<=(j : Int) := by omega
 have b4 : (j : Int)<=(n : Int) := by omega
 have hkc : k<=c := by omega
 have hjc : j<=c := by omega
 have b5 : ¬ (c = k + (n - j)) := by omega
 have b6 : k + (n - j)<=n := by omega
 have b7 : n<=c := hnc
 clear hZS hC1 hT hB hZ hBl hZl hs1 hW1 hst hfit hAs hBg hjs hks hncs hnj hkn hkz
 refine calls_of_wp hf hb ?_
 rw [hnt];simp only [List.size_toArray, List.length_cons, List.length_nil, Nat.reduceAdd, Nat.reduceSub, Array.replicate_succ, Array.replicate_zero, List.push_toArray, List.append_toArray, List.nil_append, List.cons_append];unfold qlY
 go_wp2_with fail
 go_region_law_o (refine qnS rfl _ _ t t rfl (.slice (some ⟨g, 0, none⟩) k c) (.slice (some A) (n - j) (c - j)) (by simp [Act.eval, Act.put]) (by simp [Act.eval, Act.put]) (hap t (c - j)) ?_)
 go_wp2_with (at_builtin; refine wpList_clear_at _ rfl _ t rfl _ rfl (hcl _ _) ?_)
 exact qo0 hres rfl ⟨ZS, rfl, hzs2, hzs3, by simp only [List.append_assoc]⟩
end
section
variable {P : Program} {J : Id->JI} {F : Nat->Prop} {w : World} {H : Hp}
theorem qpE {e : TypeId} {i : TypeInfo} {zv : Value} {z : List DV} (hi : P.info? e = some i) (hzv : i.zero = some zv) (hz : qr2 P e = some z) (hzl : z.length = i.size) : (∀ (j : Nat) q, zv.cells.toList[j]? = some q->q.oneCell' = true)/\zv.cells.size = i.size := by
 unfold qr2 at hz;rw [hi] at hz;simp only [hzv] at hz;refine ⟨qt1 hz, ?_⟩;have := qu6 hz;simp only [Array.length_toList] at this;omega
theorem zu2 (hH : HRel J F w H) {ns : Id} (hid : H ns = none) {s : Nat} {x : AV} {bo : Option Id} {es : List (List DV)} (hx : qx0 H s x = some (bo, es)) {v : Value} (hv : VRel J F w x v) :
  ∃ J', VRel J' F w (.row ns s 0 es.length) v/\HRel J' F w (qj5 H bo ns (.row s es))/\Ext J F w J' F w := by
 cases x <;> simp only [qx0, reduceCtorEq] at hx
 ·rename_i d
  cases d <;> simp only [reduceCtorEq, Option.some.injEq, Prod.mk.injEq] at hx
  obtain ⟨rfl, rfl⟩ := hx;have hv := hv.inv_val;cases hv;obtain ⟨q1, q2⟩ := qgR hH ns hid s 0;exact ⟨_, .rowNil ns true s 0 _ (qa6 _ _ _), q1, q2⟩
 ·rename_i b s1 o n
  split at hx
  ·rename_i s3 es' hb
   split at hx
   ·rename_i hc
    simp only [Option.some.injEq, Prod.mk.injEq] at hx;obtain ⟨rfl, rfl⟩ := hx;obtain ⟨rfl, rfl, rfl, rfl⟩ := hc;have hne : ns ≠ b := fun e => by rw [e, hb] at hid; cases hid
    have hB := hH.blk _ _ hb;cases hJ : J b with
    | none => cases hB <;> simp_all
    | dead => cases hB <;> simp_all
    | live go own s' c =>
     cases go with
     | some g =>
      obtain ⟨rfl, rfl⟩ : own = true/\s' = s3 := by cases hB <;> simp_all
      obtain ⟨r1, r2⟩ := qzA hH hb hJ hid;obtain ⟨m, hm⟩ : ∃ m, m = es'.length := ⟨_, rfl⟩;rw [← hm] at hv ⊢;refine ⟨_, ?_, r1, r2⟩;cases hv with
      | row _ _ _ g2 own2 s2 c2 hJ2 hc2 =>
       rw [hJ] at hJ2; cases hJ2;exact .row ns 0 m g true _ _ (qa6 _ _ _) hc2
      | rowNil _ _ _ _ _ hJ2 => rw [hJ] at hJ2; cases hJ2
      | rowEnd _ _ _ _ _ _ _ ho => exact absurd rfl ho
      | rowDead _ _ _ _ _ _ hJ2 => rw [hJ] at hJ2; cases hJ2
     | none =>
      have hes : es' = [] := by cases hB <;> simp_all
      subst hes;obtain ⟨k1, k2⟩ := kill hH b hb;obtain ⟨q1, q2⟩ := qgR k1 ns (by rw [qc1 _ _ hne]; exact hid) s3 0;cases hv with
      | row _ _ _ g2 own2 s2 c2 hJ2 hc2 => rw [hJ] at hJ2; cases hJ2
      | rowNil _ _ _ _ p hJ2 => exact ⟨_, .rowNil ns true s3 0 p (qa6 _ _ _), q1, k2.trans q2⟩
      | rowEnd _ _ _ _ _ _ _ ho => exact absurd rfl ho
      | rowDead _ _ _ _ _ _ hJ2 => rw [hJ] at hJ2; cases hJ2
   ·cases hx
  ·cases hx
theorem delOk {f : FuncId} {t ti tb e : TypeId} {s bytes : Nat} (hfn : qnL P f 33 6 (qlY t ti tb)) (ht : P.underlying t = some (.slice e)) (hti : P.underlying ti = some (.int .i64)) (he : zh9 P e s bytes = true) (mixed : P.follows .mixedOrders = true) : qj8 P f (qc7 (.del s)) := by
 obtain ⟨i, zv, z, hi, rfl, rfl, hzv, hz, hzl⟩ := qgB he;refine ⟨(qn8 hfn).choose_spec.2.2.2.2, fun ns avs H x H' hs J F w vs hH hv => ?_⟩
 obtain ⟨vx, k, j, bo, es, rfl, hid, hx, hk0, hkj, hjn, hml, hs0, rfl, rfl⟩ : ∃ vx k j bo es, avs = [vx, .val (.int .i64 k), .val (.int .i64 j)]/\H ns = none/\qx0 H i.size vx = some (bo, es)/\0<=k/\k<=j/\j<=(es.length : Int)/\es.length<=maxLen/\0 < i.size ∧
   x = .row ns i.size 0 (k.toNat + (es.length - j.toNat))/\H' = qj5 H bo ns (.row i.size (es.take k.toNat ++ es.drop j.toNat)) := by
  unfold qc7 at hs;split at hs
  ·cases hs
  rename_i hid;split at hs <;> first | (cases hs; done) | (rename_i heq; cases heq)
  split at hs
  ·rename_i bo es h1
   split at hs
   ·rename_i hc
    cases hs;obtain ⟨c1, c2, c3, c4, c5⟩ := hc;exact ⟨_, _, _, bo, es, rfl, hid, h1, c1, c2, c3, c4, c5, rfl, rfl⟩
   ·cases hs
  ·cases hs
 obtain ⟨v0, rfl, hv0⟩ : ∃ v0, vs = [v0, .int .i64 k, .int .i64 j]/\VRel J F w vx v0 := by
  rcases vs with _ | ⟨v0, _ | ⟨v1, _ | ⟨v2, _ | ⟨v3, vs⟩⟩⟩⟩
  ·cases hv.1
  ·simp at hv
  ·simp at hv
  ·have h1 := (hv.2 1 _ _ rfl rfl : VRel J F w (.val (.int .i64 k)) v1).inv_val
   have h2 := (hv.2 2 _ _ rfl rfl : VRel J F w (.val (.int .i64 j)) v2).inv_val;cases h1;cases h2;exact ⟨v0, rfl, hv.2 0 _ _ rfl rfl⟩
  ·simp at hv
 obtain ⟨hzr, hzs⟩ := qpE hi hzv hz hzl;obtain ⟨kn, rfl⟩ : ∃ kn : Nat, k = kn := ⟨k.toNat, by omega⟩;obtain ⟨jn, rfl⟩ : ∃ jn : Nat, j = jn := ⟨j.toNat, by omega⟩;simp only [Int.toNat_natCast];by_cases hkj2 : kn = jn
 ·subst hkj2
  have e1 : es.take kn ++ es.drop kn = es := List.take_append_drop kn es;have e2 : kn + (es.length - kn) = es.length := by omega
  rw [e1, e2];obtain ⟨J', r1, r2, r3⟩ := zu2 hH hid hx hv0;rcases qu9 hH hx hv0 with ⟨rfl, p, rfl⟩ | ⟨_, b, g, c, cur, te, _, _, _, rfl, _, _, _, hcl, _⟩ | ⟨rfl, b, g, c, cur, te, _, _, _, rfl, _⟩
  ·exact (qrC hfn ht hti hi (p := p) (j := kn) (n := 0) (c := 0) (by simp at hjn; omega) (Nat.le_refl _) (fun _ => ⟨rfl, rfl⟩)).mono fun en w2 h => ⟨_, J', F, h.1, h.2 ▸ r1, h.2 ▸ r2, h.2 ▸ r3⟩
  ·exact (qrC hfn ht hti hi (p := some ⟨g, 0, none⟩) (j := kn) (n := es.length) (c := c) (by omega) hcl (fun h => by cases h)).mono fun en w2 h => ⟨_, J', F, h.1, h.2 ▸ r1, h.2 ▸ r2, h.2 ▸ r3⟩
  ·exact (qrC hfn ht hti hi (p := some ⟨g, 0, none⟩) (j := kn) (n := 0) (c := c) (by simp at hjn; omega) (Nat.zero_le _) (fun h => by cases h)).mono fun en w2 h => ⟨_, J', F, h.1, h.2 ▸ r1, h.2 ▸ r2, h.2 ▸ r3⟩
 ·rcases qu9 hH hx hv0 with ⟨rfl, _⟩ | ⟨hes, b, g, c, cur, te, rfl, rfl, hb, rfl, hJ, hg, hc, hcl, hcm, hgr⟩ | ⟨rfl, _⟩
  ·simp at hjn; omega
  ·obtain ⟨ga, gal⟩ := hgr.take kn (by omega)
   obtain ⟨gb, gbl⟩ := hgr.drop jn (by omega);obtain ⟨gg, ggl⟩ := ga.append gal gb gbl;have hlen : (es.take kn ++ es.drop jn).length = kn + (es.length - jn) := by rw [List.length_append, List.length_take, List.length_drop]; omega
   refine (del_some hfn ht hti hi hzv hzs hzr mixed (by omega) (by omega) hcl hcm hg hc (qw8 hgr.one)).mono ?_
   rintro en w2 ⟨zs, rfl, hzl2, hz3, rfl⟩;obtain ⟨r1, r2⟩ := qzA hH hb hJ hid;have gall := gg.more (by rw [ggl]) hz3
   obtain ⟨q1, q2⟩ := qgS (b := ns) r1.drew (qa6 _ _ _) (cur' := (cur.toList.take (kn * i.size) ++ (cur.toList.drop (jn * i.size)).take ((es.length - jn) * i.size) ++ zs).toArray) (e := te) hg (.row i.size (es.take kn ++ es.drop jn)) (by
    intro hV hR hg2;refine .row i.size _ g c _ te (qa6 _ _ _) hg2 ?_ (by rw [hlen]; omega) hcm gall.el ?_ ?_
    ·rw [List.size_toArray, List.length_append, ggl, hlen]
     omega
    ·intro k j x d q h2 h3 h4
     exact hR d q ((gall.rep k j x d q h2 h3 (by simpa using h4)).mono (fun _ h => h) (fun _ _ => rfl))
    ·intro j q h2
     exact gall.one j q (by simpa using h2))
   have e2 : upd (upd (upd H b (some .dead)) ns (some (.row i.size es))) ns (some (.row i.size (es.take kn ++ es.drop jn))) = upd (upd H b (some .dead)) ns (some (.row i.size (es.take kn ++ es.drop jn))) := by
    funext k
    simp only [upd];split <;> rfl
   rw [e2] at q1;refine ⟨_, _, F, rfl, ?_, q1, (r2.trans (qh9 _ _ _)).trans q2⟩;have := VRel.row (J := qaA (qaA J b .dead) ns (.live (some g) true i.size c)) (F := F) (w := w.drew.setRow g (cur.toList.take (kn * i.size) ++ (cur.toList.drop (jn * i.size)).take ((es.length - jn) * i.size) ++ zs).toArray) ns 0 (kn + (es.length - jn)) g true i.size c (qa6 _ _ _) (by omega)
   rwa [Nat.zero_mul, Nat.sub_zero] at this
  ·simp at hjn; omega
end
open Go.Lib
def qrD (t ti tb tp ts : TypeId) : Code := (.seq (.region 0 #[(.mk (some 4) (.assign (.const (.slice none 0 0))) t "slices.go:422" #[] none)] false) (.seq (.seq (.region 1 #[(.mk (some 5) (.move (.tmp 1)) ti "slices.go:423" #[] none), (.mk (some 6) (.binOp .lss ti (.tmp 5) (.const (.int .i64 0)) ti) tb "slices.go:423" #[(.mk 0 .data)] none)] false) (.cond (.tmp 6) (.region 2 #[(.mk (some 7) (.makeInterface ts (.const (.string ⟨#[99, 97, 110, 110, 111, 116, 32, 98, 101, 32, 110, 101, 103, 97, 116, 105, 118, 101]⟩))) tp "slices.go:424" #[] none), (.mk none (.panic (.tmp 7)) 0 "slices.go:424" #[(.mk 0 .data)] none)] false) .skip)) (.seq (.seq (.region 3 #[(.mk (some 8) (.move (.tmp 1)) ti "slices.go:426" #[] none), (.mk (some 9) (.move (.tmp 0)) t "slices.go:426" #[] none), (.mk (some 10) (.call (.mk (.builtin .cap) #[(.tmp 9)] #[t])) ti "slices.go:426" #[(.mk 1 .data)] none), (.mk (some 11) (.move (.tmp 0)) t "slices.go:426" #[] none), (.mk (some 12) (.call (.mk (.builtin .len) #[(.tmp 11)] #[t])) ti "slices.go:426" #[(.mk 3 .data)] none), (.mk (some 13) (.binOp .sub ti (.tmp 10) (.tmp 12) ti) ti "slices.go:426" #[(.mk 2 .data), (.mk 4 .data)] none), (.mk (some 14) (.binOp .sub ti (.tmp 8) (.tmp 13) ti) ti "slices.go:426" #[(.mk 0 .data), (.mk 5 .data)] none), (.mk (some 1) (.assign (.tmp 14)) ti "slices.go:426" #[(.mk 6 .data), (.mk 0 .phase), (.mk 1 .phase), (.mk 2 .phase), (.mk 3 .phase), (.mk 4 .phase), (.mk 5 .phase), (.mk 6 .phase)] none)] false) (.seq (.region 4 #[(.mk (some 15) (.move (.tmp 1)) ti "slices.go:426" #[] none), (.mk (some 16) (.binOp .gtr ti (.tmp 15) (.const (.int .i64 0)) ti) tb "slices.go:426" #[(.mk 0 .data)] none)] false) (.cond (.tmp 16) (.region 5 #[(.mk (some 17) (.move (.tmp 0)) t "slices.go:428" #[] none), (.mk (some 18) (.move (.tmp 0)) t "slices.go:428" #[] none), (.mk (some 19) (.call (.mk (.builtin .cap) #[(.tmp 18)] #[t])) ti "slices.go:428" #[(.mk 1 .data)] none), (.mk (some 20) (.slice t (.tmp 17) none (some (.tmp 19)) none) t "slices.go:428" #[(.mk 0 .data), (.mk 2 .data)] none), (.mk (some 21) (.move (.tmp 1)) ti "slices.go:428" #[] none), (.mk (some 22) (.call (.mk (.builtin .append) #[(.tmp 20), (.tmp 21)] #[t, ti])) t "slices.go:428" #[(.mk 3 .data), (.mk 4 .data)] none), (.mk (some 23) (.move (.tmp 0)) t "slices.go:428" #[] none), (.mk (some 24) (.call (.mk (.builtin .len) #[(.tmp 23)] #[t])) ti "slices.go:428" #[(.mk 6 .data)] none), (.mk (some 25) (.slice t (.tmp 22) none (some (.tmp 24)) none) t "slices.go:428" #[(.mk 5 .data), (.mk 7 .data)] none), (.mk (some 0) (.assign (.tmp 25)) t "slices.go:428" #[(.mk 8 .data), (.mk 5 .chain), (.mk 0 .phase), (.mk 1 .phase), (.mk 2 .phase), (.mk 3 .phase), (.mk 4 .phase), (.mk 5 .phase), (.mk 6 .phase), (.mk 7 .phase), (.mk 8 .phase)] none)] false) .skip))) (.seq (.region 6 #[(.mk (some 26) (.move (.tmp 0)) t "slices.go:430" #[] none), (.mk (some 4) (.assign (.tmp 26)) t "slices.go:430" #[(.mk 0 .data), (.mk 0 .phase)] none)] false) .ret))))
section
variable {P : Program} {J : Id->JI} {F : Nat->Prop} {w : World} {H : Hp}
set_option maxHeartbeats 4000000 in
set_option maxRecDepth 100000 in
theorem growOk {f : FuncId} {t ti tb tp ts e : TypeId} {s bytes : Nat} (hfn : qnL P f 27 4 (qrD t ti tb tp ts)) (ht : P.underlying t = some (.slice e)) (hti : P.underlying ti = some (.int .i64)) (he : zh9 P e s bytes = true) : qj8 P f (qc7 (.grow s bytes)) := by
 obtain ⟨i, zv, z, hi, rfl, rfl, hzv, hz, hzl⟩ := qgB he;refine ⟨(qn8 hfn).choose_spec.2.2.2.2, fun ns avs H x H' hs J F w vs hH hv => ?_⟩
 obtain ⟨s', n, rfl, hid, hn0, hby, hml, hs0, rfl, rfl⟩ : ∃ s' n, avs = [.val (.nils s'), .val (.int .i64 n)]/\H ns = none/\0<=n/\n * (i.bytes : Int)<=70368744177664/\n<=(maxLen : Int)/\0 < i.size/\x = .row ns i.size 0 0/\H' = qj5 H none ns (.row i.size []) := by
  unfold qc7 at hs;split at hs
  ·cases hs
  rename_i hid;split at hs <;> first | (cases hs; done) | (rename_i heq; cases heq)
  split at hs
  ·rename_i hc
   cases hs;exact ⟨_, _, rfl, hid, hc.1, hc.2.1, hc.2.2.1, hc.2.2.2, rfl, rfl⟩
  ·cases hs
 obtain ⟨p, rfl⟩ : ∃ p, vs = [.slice p 0 0, .int .i64 n] := by
  rcases vs with _ | ⟨v0, _ | ⟨v1, _ | ⟨v2, vs⟩⟩⟩
  ·cases hv.1
  ·simp at hv
  ·have h0 := (hv.2 0 _ _ rfl rfl : VRel J F w (.val (.nils s')) v0).inv_val
   have h1 := (hv.2 1 _ _ rfl rfl : VRel J F w (.val (.int .i64 n)) v1).inv_val;cases h0;cases h1;exact ⟨_, rfl⟩
  ·simp at hv
 obtain ⟨hzr, hzs⟩ := qpE hi hzv hz hzl;obtain ⟨m, rfl⟩ : ∃ m : Nat, n = m := ⟨n.toNat, by omega⟩;obtain ⟨fn, hf, hnt, hres, hb, hent⟩ := qn8 hfn;have u : ∀ w, Sem.run P (underlying t) w = .ok (TypeDesc.slice e) w := run_underlying ht;have ui : ∀ w, Sem.run P (underlying ti) w = .ok (TypeDesc.int .i64) w := run_underlying hti;have sz : ∀ w, Sem.run P (sizeOf e) w = .ok i.size w := fun w => qd0 hi
 have hneg : ¬ ((m : Int) < 0) := by omega
 by_cases hm0 : m = 0
 ·subst hm0
  obtain ⟨q1, q2⟩ := qgR hH ns hid i.size 0
  have key : Calls P f #[.slice p 0 0, .int .i64 (0 : Nat)] w fun e w' => e = .returned (.slice p 0 0)/\w' = w := by
   clear hv hs q1 q2
   refine calls_of_wp hf hb ?_
   rw [hnt];simp only [List.size_toArray, List.length_cons, List.length_nil, Nat.reduceAdd, Nat.reduceSub, Array.replicate_succ, Array.replicate_zero, List.push_toArray, List.append_toArray, List.nil_append, List.cons_append];unfold qrD
   go_wp2
   all_goals exact qo0 hres rfl ⟨rfl, rfl⟩
  exact key.mono fun en w2 h => ⟨_, _, F, h.1, .rowNil ns true i.size 0 _ (qa6 _ _ _), h.2 ▸ q1, h.2 ▸ q2⟩
 ·have hpos : (0 : Int) < (m : Int) := by omega
  have hfc : (Builtin.firstCells i.size 0 (.slice p 0 0)).run P w.drew = .ok ([] : List Value).toArray w.drew := by
   cases p with
   | none => exact run_firstCells_none w.drew i.size 0 0 0
   | some b => simp [Builtin.firstCells, loadCells, loadCellsFrom]
  have hrz : ∀ ty, (Builtin.append_ #[t, ti] ty #[.slice p 0 0, .int .i64 m]).run P w = .ok (.slice (some ⟨w.heap.size, 0, none⟩) m (grownCap w m 0 e)) (w.drew.alloc (.cells (([] : List Value).toArray ++ Builtin.zeroCells zv.cells m ++ Builtin.zeroCells zv.cells (grownCap w m 0 e - m)) e)) := fun ty => by
   have hb2 : m * i.bytes<=70368744177664 := by rw [← Int.natCast_mul] at hby; omega
   have h := Lib.run_append_grow_zeros w t ti ty e i zv .i64 .i64 ht hti hi hzv p 0 0 [] hfc m (by omega) hs0 (by omega) (by unfold maxLen at hml; omega) (by omega) (by rw [Nat.zero_add]; exact growslice_fits (by omega) (by omega))
   rwa [Nat.zero_add] at h
  obtain ⟨G, hG⟩ : ∃ G, G = grownCap w m 0 e := ⟨_, rfl⟩;have hGm : m<=G := by rw [hG]; exact grownCap_ge w _ _ _
  have hGl : G<=maxLen := by rw [hG]; exact grownCap_le_maxLen w m 0 e (by omega)
  rw [← hG] at hrz;obtain ⟨ROW, hROW⟩ : ∃ ROW : Array Value, ROW = ([] : List Value).toArray ++ Builtin.zeroCells zv.cells m ++ Builtin.zeroCells zv.cells (G - m) := ⟨_, rfl⟩
  have hRs : ROW.size = G * i.size := by
   rw [hROW];simp only [Array.size_append, List.size_toArray, size_zeroCells, hzs, List.length_nil, Nat.zero_add, ← Nat.add_mul]
   congr 1
   omega
  have hRone : ∀ (j : Nat) v, ROW.toList[j]? = some v->v.oneCell' = true := by
   intro j v hv;have hmem := List.mem_of_getElem? hv;rw [hROW] at hmem;simp only [Array.toList_append, List.mem_append] at hmem;rcases hmem with (h | h) | h
   ·simp at h
   ·exact qw8 (qh3 hzr _) v h
   ·exact qw8 (qh3 hzr _) v h
  rw [← hROW] at hrz;have hG63 : G<=9223372036854775807 := by unfold maxLen at hGl; omega
  obtain ⟨J', q1, q2, q3⟩ := qkO (e := e) (cap := G) (cur := ROW) (es := []) hH.drew hid ⟨by simp, by simp, by simp, hRone⟩ hRs (by simp) hGl
  clear hROW hG
  have key : Calls P f #[.slice p 0 0, .int .i64 (m : Nat)] w fun e' w' => e' = .returned (.slice (some ⟨w.heap.size, 0, none⟩) 0 G)/\w' = w.drew.alloc (.cells ROW e) := by
   clear hv hs q1 q2 q3
   refine calls_of_wp hf hb ?_
   rw [hnt];simp only [List.size_toArray, List.length_cons, List.length_nil, Nat.reduceAdd, Nat.reduceSub, Array.replicate_succ, Array.replicate_zero, List.push_toArray, List.append_toArray, List.nil_append, List.cons_append];unfold qrD;cases p with
   | none =>
    go_wp2_with (at_builtin; refine Lib.wpList_append_run _ rfl _ _ _ _ rfl _ _ rfl rfl _ _ (hrz _) ?_)
    all_goals exact qo0 hres rfl ⟨rfl, rfl⟩
   | some a =>
    obtain ⟨ab, ao, asp⟩ := a
    go_wp2_with (at_builtin; refine Lib.wpList_append_run _ rfl _ _ _ _ rfl _ _ rfl rfl _ _ (hrz _) ?_)
    all_goals exact qo0 hres rfl ⟨rfl, rfl⟩
  exact key.mono fun en w2 h => ⟨_, J', F, h.1, h.2 ▸ q3, h.2 ▸ q1, h.2 ▸ ((qh9 J F w).trans q2)⟩
end
open Go.Lib
theorem Tbl.hand {P : Program} {lb : LbT} {M T : List (FuncId × TCn)} (h : Tbl P lb M T) (f : FuncId) (tc : TCn) (hv : qdF P f (qm3 tc)) (h3 : tc.res.all Sh.fine = true) : Tbl P lb M ((f, tc) :: T) := by
 simp only [List.all_eq_true] at h3;refine ⟨fun g => ?_, h.lib, fun g tc' hg' => ?_, h.meth, h.mfine⟩
 ·unfold qiY
  simp only [qq3];cases hk : Nat.beq f g with
  | true =>
   have := qb2 hk;subst this;exact hv
  | false => exact h.con g
 ·simp only [qq3] at hg'
  split at hg'
  ·cases hg'; exact h3
  ·exact h.fine g tc' hg'
def zu3 (a b : ByteArray) : Int := Extern.BytealgCompare.cmp a b
def zu4 (ts ti : TypeId) (fx : FuncId) : Code := (.seq (.region 0 #[(.mk (some 4) (.assign (.const (.int .i64 0))) ti "compare_native.go:14" #[] none)] false) (.seq (.region 1 #[(.mk (some 5) (.move (.tmp 0)) ts "compare_native.go:15" #[] none), (.mk (some 6) (.move (.tmp 1)) ts "compare_native.go:15" #[] none), (.mk (some 7) (.call (.mk (.value (.func fx)) #[(.tmp 5), (.tmp 6)] #[ts, ts])) ti "compare_native.go:15" #[(.mk 0 .data), (.mk 1 .data)] none), (.mk (some 4) (.assign (.tmp 7)) ti "compare_native.go:15" #[(.mk 2 .data), (.mk 2 .chain), (.mk 0 .phase), (.mk 1 .phase), (.mk 2 .phase)] none)] false) .ret))
def cmpIs (P : Program) (fx : FuncId) : Prop := (P.funcs[fx]?).map (fun fn => (fn.name == "runtime.NumGoroutine", fn.body.isNone, Extern.findNext fn, Extern.find fn)) = some (false, true, none, some Extern.BytealgCompare.compare)
theorem zu5 {P : Program} {fx : FuncId} (h : cmpIs P fx) : ∃ fn, P.funcs[fx]? = some fn/\(fn.name == "runtime.NumGoroutine") = false/\fn.body.isNone = true/\Extern.findNext fn = none/\Extern.find fn = some Extern.BytealgCompare.compare := by
 unfold cmpIs at h;obtain ⟨fn, h1, h2⟩ := Option.map_eq_some_iff.1 h;simp only [Prod.mk.injEq] at h2;exact ⟨fn, h1, h2.1, h2.2.1, h2.2.2.1, h2.2.2.2⟩
noncomputable def tcCmp : TCn := ⟨[.str, .str], [.int .i64], fun a => some (zu3 a.1 a.2.1)⟩
theorem cmpOk {P : Program} {f fx : FuncId} {ts ti : TypeId} (hfn : qnL P f 8 4 (zu4 ts ti fx)) (hx : cmpIs P fx) : qdF P f (qm3 tcCmp) := by
 obtain ⟨fn, hf, hnt, hres, hb, hent⟩ := qn8 hfn;refine ⟨hent, fun ds r hs F w vs hr hF _ => ?_⟩;unfold qm3 at hs;split at hs
 ·rename_i h
  have hc := Classical.choose_spec h
  revert hs hc
  generalize Classical.choose h = a;intro hs hc;obtain ⟨a, b, ⟨⟩⟩ := a;have hs2 : some (ebL tcCmp.res (zu3 a b)) = some r := hs;cases hs2
  clear hs
  obtain ⟨d1, d2, rfl, q1, q2⟩ : ∃ d1 d2, ds = [d1, d2]/\zA (.str a) = zA d1/\zA (.str b) = zA d2 := by
   have hl : ds.length = 2 := by
    have := congrArg List.length hc;rw [List.length_map, List.length_map] at this;exact this.symm
   match ds, hl with
   | [d1, d2], _ =>
    have h1 := hc;simp only [List.map_cons, List.map_nil] at h1;have e : (eaL tcCmp.args (a, b, ())).map zA = [zA (.str a), zA (.str b)] := rfl;rw [e] at h1;simp only [List.cons.injEq, and_true] at h1;exact ⟨d1, d2, rfl, h1.1, h1.2⟩
  obtain ⟨v1, v2, rfl⟩ : ∃ v1 v2, vs = [v1, v2] := by
   have := hr.1
   match vs, this with
   | [v1, v2], _ => exact ⟨v1, v2, rfl⟩
  have r1 : Rep F w (.str a) v1 := qoW q1.symm (hr.2 0 d1 v1 rfl rfl);have r2 : Rep F w (.str b) v2 := qoW q2.symm (hr.2 1 d2 v2 rfl rfl);cases r1;cases r2;obtain ⟨fx', g1, g2, g3, g4, g5⟩ := zu5 hx
  have hov : ∀ w, (callFunc fx #[.string a, .string b]).run P w = .ok (.value (goInt (zu3 a b))) w := fun w => by
   rw [run_callFunc_extern g1 g2 g3 g4 g5];rfl
  obtain ⟨n, hn⟩ : ∃ n, n = zu3 a b := ⟨_, rfl⟩;rw [← hn] at hov;have hgo : goInt n = .int .i64 n := rfl;rw [hgo] at hov
  have key : Calls P f #[.string a, .string b] w fun e w' => e = .returned (.int .i64 n)/\w' = w := by
   clear hr hc hn q1 q2 hF
   refine calls_of_wp hf hb ?_
   rw [hnt];simp only [List.size_toArray, List.length_cons, List.length_nil, Nat.reduceAdd, Nat.reduceSub, Array.replicate_succ, Array.replicate_zero, List.push_toArray, List.append_toArray, List.nil_append, List.cons_append];unfold zu4
   go_wp2_with (simp only [hov])
   exact qo0 hres rfl ⟨rfl, rfl⟩
  refine key.mono fun e w' h => ?_
  obtain ⟨rfl, rfl⟩ := h;refine ⟨.int .i64 n, F, rfl, ?_, fun g h => .inl h, hF, ⟨fun g _ => rfl, Nat.le_refl _, rfl, rfl, rfl⟩⟩;have : ebL tcCmp.res (zu3 a b) = .int .i64 n := by rw [hn]; rfl
  exact this ▸ .int _ _
 ·cases hs
theorem qrE {P : Program} {f : FuncId} {sp : Id->List AV->Hp->Option (AV × Hp)} (h : qj8 P f sp) {spec : List DV->Option DV}
  (hs : ∀ ds r, spec ds = some r->∃ x H' ids, sp [0] (ds.map .val) (mkH []) = some (x, H')/\qz9 H' 99 x = some (r, ids)) : qdF P f spec := by
 refine ⟨h.1, fun ds r hr F w vs hrep hF hT => ?_⟩;obtain ⟨x, H', ids, h1, h2⟩ := hs ds r hr;refine (h.2 [0] _ _ x H' h1 (fun _ => .none) F w vs (nothing F w hF hT) ⟨by simp [hrep.1], fun j y v q1 q2 => ?_⟩).mono fun e w' hq => ?_
 ·simp only [List.getElem?_map, Option.map_eq_some_iff] at q1
  obtain ⟨d, q1, rfl⟩ := q1;exact .val _ _ (hrep.2 j d v q1 q2)
 ·obtain ⟨v, J', F', rfl, hv, hH', hX'⟩ := hq
  have hnew : ∀ g, F' g\/Own J' g->F g\/w.heap.size<=g := by
   rintro g (h1 | h1)
   ·rcases hX'.fnew g h1 with h2 | ⟨_, _, _, h2⟩ | h2
    ·exact .inl h2
    ·cases h2
    ·exact .inr h2
   ·rcases hX'.onew g h1 with ⟨_, _, _, h2⟩ | h2
    ·cases h2
    ·exact .inr h2
  have hsz : ∀ g, F' g\/Own J' g->g < w'.heap.size := by
   rintro g (h1 | ⟨_, _, _, h1⟩)
   ·exact hH'.fsz g h1
   ·exact hH'.live _ _ _ _ _ h1
  have widen : ∀ ids g, qdY J' F' ids g->F' g\/Own J' g := fun ids g h => h.imp (fun h => h) (fun ⟨i, _, s, c, h⟩ => ⟨i, s, c, h⟩)
  exact ⟨v, _, rfl, ((qt0 hH' 99).1 _ _ _ v h2 hv).mono (widen ids) (fun _ _ => rfl), hnew, hsz, ⟨fun g hg => hX'.heap g hg (by rintro ⟨_, _, _, h⟩; cases h), hX'.size, hX'.os, hX'.tape, hX'.output⟩⟩
noncomputable def tcClone (bytes : Nat) (sh : Sh) : TCn := ⟨[.slice sh.size sh], [.slice sh.size sh], fun a => qn7 [] a.1 bytes⟩
theorem z1_slice {d : DV} {s : Nat} {L : List (List DV)} (h : z1 d = z1 (DV.norm1 (.sl s L))) : ∃ k, d = .sl k L/\(k = s\/L = []) := by
 rw [qeJ] at h;cases d with
 | sl k L' =>
  cases L' with
  | nil =>
   cases L with
   | nil => exact ⟨k, rfl, .inr rfl⟩
   | cons y L => simp [z1] at h
  | cons x L' =>
   cases L with
   | nil => simp [z1] at h
   | cons y L => simp only [z1, DV.sl.injEq] at h; obtain ⟨rfl, h⟩ := h; rw [h]; exact ⟨_, rfl, .inl rfl⟩
 | _ => cases L <;> simp [z1] at h
theorem zb9 {P : Program} {f : FuncId} {sh : Sh} {bytes : Nat} (h : qj8 P f (qc7 (.clone sh.size bytes))) : qdF P f (qm3 (tcClone bytes sh)) := by
 refine qrE h fun ds r hs => ?_
 unfold qm3 at hs;split at hs
 ·rename_i hq
  have hc := Classical.choose_spec hq
  revert hs hc
  generalize Classical.choose hq = a;intro hs hc;obtain ⟨l, ⟨⟩⟩ := a
  obtain ⟨d, rfl, hd⟩ : ∃ d, ds = [d]/\z1 d = z1 (DV.norm1 (.sl sh.size (List.map (qe1 sh) l))) := by
   have hl : ds.length = 1 := by
    have := congrArg List.length hc;rw [List.length_map, List.length_map] at this;exact this.symm
   match ds, hl with
   | [d], _ =>
    have e : zA (DV.norm1 (.sl sh.size (List.map (qe1 sh) l))) = zA d := by
     have := congrArg (fun l => l.head?) hc;exact Option.some.inj this
    refine ⟨d, rfl, ?_⟩;have e1 : zA (DV.norm1 (.sl sh.size (List.map (qe1 sh) l))) = z1 (DV.norm1 (.sl sh.size (List.map (qe1 sh) l))) := by cases l <;> rfl
    rw [e1] at e;cases d with
    | agg m => exfalso; rw [qeJ] at e; cases l <;> simp [zA, z1] at e
    | _ => exact e.symm
  obtain ⟨k, rfl, hk⟩ := z1_slice hd;have hs2 : (qn7 [] l bytes).map (ebL [.slice sh.size sh]) = some r := hs;cases ha : qn7 [] l bytes with
  | none => rw [ha] at hs2; cases hs2
  | some m =>
   rw [ha] at hs2;obtain ⟨g1, rfl⟩ := qfV ha;have hr : r = DV.norm1 (.sl sh.size (List.map (qe1 sh) m)) := (Option.some.inj hs2).symm;subst hr;simp only [List.length_nil, Nat.zero_add] at g1;refine ⟨.row [0] sh.size 0 m.length, qj5 (mkH []) none [0] (.row sh.size (List.map (qe1 sh) m)), [[0]], ?_, ?_⟩
   ·unfold qc7
    simp only [mkH, List.map_cons, List.map_nil, elems];rw [if_pos hk];simp only [List.length_map];rw [if_pos g1]
   ·simp only [qz9, qj5, qc0]
    rw [if_pos ⟨trivial, by simp⟩];rw [List.drop_zero, List.take_of_length_le (by simp)]
 ·cases hs
end Go.AI
