/- The method that removes segments: its contract. No condition. -/
import Derived.Test.YtganbdbpkoggmaaDoorLG
import Derived.RangeFuncNested
import Derived.RangeFuncBound
import Derived.RangeFuncBox
import Derived.RangeFuncLeaves
import Derived.Shelf.Abstract
import Derived.WalkKit
import Derived.OwnWalkIn
import Derived.TacticsInMore
import Derived.LoopNIn
import Derived.LoopIn
import Derived.Test.YtganbdbpkoggmaaDoorProg
set_option linter.unusedVariables false
set_option linter.unusedSimpArgs false
namespace Go.Proofs
open Go.RowKit Go.Shelf
attribute [local go_sem] Oper.semAt_some
def qbZ (zs : List Int) (k : Nat) : List (Int × Int) := (List.range k).map fun j : Nat => (((zs.length : Int) - 1 - j), zs[zs.length - 1 - j]?.getD 0)
theorem qxT (zs : List Int) (k : Nat) : qbZ zs (k + 1) = qbZ zs k ++ [((zs.length : Int) - 1 - k, zs[zs.length - 1 - k]?.getD 0)] := by simp [qbZ, List.range_succ]
theorem qrF (zs : List Int) (k : Nat) : (qbZ zs k).length = k := by simp [qbZ]
abbrev RX (zs : List Int) := { x : Int × Int // x.2 ∈ zs }
set_option maxRecDepth 100000 in
set_option maxHeartbeats 2000000 in
theorem back1_in (F : Fence) (n : Nat) (h65 : F.fn 65) (hro : F.round = none) (hn : 1<=n) (l Bs : Nat) (p : Option Addr) (cap : Nat) (zs : List Int) (hreach : zs.length<=9223372036854775807) (Kp : World->World->Prop) (J Jx : List (RX zs)->World->Prop)
  (hY : ∀ pre x W, J pre W->pre.length < zs.length->YieldAt F (n - 1) Tryd.prog l #[.int .i64 x.1.1, .int .i64 x.1.2] W fun e W' =>
   (e = .returned (.bool true)/\J (pre ++ [x]) W'/\Kp W W')\/(e = .returned (.bool false)/\Jx (pre ++ [x]) W'))
  (W : World) (Rd : World->Prop) (hRd : ∀ A B, Kp A B->Rd A->Rd B) (hBs : ∀ A, Rd A->A.cell? ⟨Bs, 0, none⟩ = some (.slice p zs.length cap))
  (hc : ∀ A, Rd A->zs ≠ []->∃ b off, p = some ⟨b, off, none⟩/\∀ j, j < zs.length->A.cell? ⟨b, off + j, none⟩ = some (.int .i64 (zs[j]?.getD 0))) (hR0 : Rd W) (h0 : J [] W) :
  CallsIn F n Tryd.prog 65 #[.func (.yield l) #[] #[], .pointer (some ⟨Bs, 0, none⟩)] W fun e W' => (∃ v, e = .returned v) ∧
   ((∃ ys, ys.map (·.1) = qbZ zs zs.length/\J ys W')\/(∃ pre, True/\Jx pre W')) := by
 have hB0 := hBs W hR0;refine callsIn_of_wp Tryd.func65 rfl h65 ?_ hro
 simp only [Tryd.ntmps65, List.size_toArray, List.length_cons, List.length_nil, Nat.reduceAdd, Nat.reduceSub, Array.replicate_succ, Array.replicate_zero, List.push_toArray, List.append_toArray, List.nil_append, List.cons_append]
 gi_wp2
 gi_loopw [3] (fun i wr => ∃ k : Nat, k<=zs.length/\i = .int .i64 ((zs.length : Int) - 1 - k)/\(∃ pre : List (RX zs), pre.map (·.1) = qbZ zs k/\J pre wr)/\Rd wr)
  (fun i _ => (intOf i + 1).toNat)
 case atStart => exact ⟨0, Nat.zero_le _, by simp [wrap64], ⟨[], rfl, h0⟩, hR0⟩
 case round =>
  obtain ⟨k, hk, rfl, ⟨pre, hpre, hJs⟩, hRs⟩ := hrel;have hplen : pre.length = k := by have := congrArg List.length hpre; rwa [List.length_map, qrF] at this
  have hB1 := hBs wr hRs;by_cases hlt : k < zs.length
  ·obtain ⟨b, off, rfl, hcx⟩ := hc wr hRs (by intro e; rw [e] at hlt; simp at hlt)
   have hcx' := hcx (zs.length - 1 - k) (by omega);have hi : ((zs.length : Int) - 1 - k) = ((zs.length - 1 - k : Nat) : Int) := by omega
   obtain ⟨i, hiN⟩ : ∃ i, i = zs.length - 1 - k := ⟨_, rfl⟩;rw [← hiN] at hi hcx';have hil : i < zs.length := by omega
   obtain ⟨v, hv⟩ : ∃ v, v = zs[i]?.getD 0 := ⟨_, rfl⟩;rw [← hv] at hcx';have hmem : v ∈ zs := by rw [hv, List.getElem?_eq_getElem hil]; exact List.getElem_mem hil
   obtain ⟨fn, tmps, assign, body, hy, hR⟩ := hY pre ⟨((i : Int), v), hmem⟩ wr hJs (by rw [hplen]; exact hlt);dsimp only at hy;rw [hi];have HI : Hid (i = zs.length - 1 - k) := hiN;have HJ : Hid (((zs.length : Int) - 1 - k) = (i : Int)) := hi;have HV : Hid (v = zs[i]?.getD 0) := hv;have HP : Hid (pre.map (·.1) = qbZ zs k) := hpre
   clear hiN hi hv hcx hc hpre hplen
   gi_wp2
   refine hR.mono ?_
   rintro e W3 (⟨rfl, hJ3, hk3⟩ | ⟨rfl, hJx3⟩)
   ·gi_wp2
    go_roundw
    case rel => exact ⟨k + 1, by omega, by have := HJ.out; simp [wrap64]; omega, ⟨_, by rw [List.map_append, HP.out, qxT, ← HI.out, HJ.out, ← HV.out]; rfl, hJ3⟩, hRd _ _ hk3 hRs⟩
    case measure => simp [intOf, wrap64] <;> omega
   ·gi_wp2
    refine bodyPost_ret (results_none rfl _ _ _) rfl ?_
    exact ⟨⟨_, rfl⟩, .inr ⟨_, trivial, hJx3⟩⟩
  ·obtain rfl : k = zs.length := by omega
   have e1 : (zs.length : Int) - 1 - zs.length = -1 := by omega
   rw [e1]
   gi_wp2
   go_end0
   exact ⟨⟨_, rfl⟩, .inl ⟨_, hpre, hJs⟩⟩
set_option maxHeartbeats 1000000 in
theorem back_in (F : Fence) (n : Nat) (h42 : F.fn 42) (hro : F.round = none) (a : Option Addr) (len cap : Nat) (w : World) :
  CallsIn F n Tryd.prog 42 #[.slice a len cap] w fun e w' => e = .returned (.func (.func 65) #[] #[.pointer (some ⟨w.heap.size, 0, none⟩)])/\w' = w.alloc (.cells #[.slice a len cap] 52) := by
 refine callsIn_of_wp Tryd.func42 rfl h42 ?_ hro
 simp only [Tryd.ntmps42, List.size_toArray, List.length_cons, List.length_nil, Nat.reduceAdd, Nat.reduceSub, Array.replicate_succ, Array.replicate_zero, List.push_toArray, List.append_toArray, List.nil_append, List.cons_append]
 gi_wp2
 go_ret
 exact ⟨rfl, rfl⟩
def RKp (S : Nat->Prop) (A B : World) : Prop := ∀ g, S g->B.heap[g]? = A.heap[g]?
theorem zi5 (F : Fence) (n : Nat) (h65 : F.fn 65) (hro : F.round = none) (hn : 1<=n) (Bs : Nat) (p : Option Addr) (cap : Nat) (zs : List Int) (hreach : zs.length<=9223372036854775807) (S : Nat->Prop) (w : World) (hS : ∀ g, S g->g < w.heap.size)
  (hSB : S Bs) (hB : w.cell? ⟨Bs, 0, none⟩ = some (.slice p zs.length cap))
  (hc : zs ≠ []->∃ b off, p = some ⟨b, off, none⟩/\S b/\∀ j, j < zs.length->w.cell? ⟨b, off + j, none⟩ = some (.int .i64 (zs[j]?.getD 0))) :
  SeqStopsK F n Tryd.prog 65 #[.pointer (some ⟨Bs, 0, none⟩)] (fun x : RX zs => #[Value.int .i64 x.1.1, Value.int .i64 x.1.2]) (RKp S) (fun ys => ys.map (·.1) = qbZ zs zs.length) (fun _ => True) zs.length w := fun l J Jx W hW _ _ hY h0 => by
 refine back1_in F n h65 hro hn l Bs p cap zs hreach (RKp S) J Jx hY W (fun A => ∀ g, S g->A.heap[g]? = w.heap[g]?) (fun A B hk hA g hg => (hk g hg).trans (hA g hg)) (fun A hA => ?_) (fun A hA hne => ?_) (fun g hg => hW.block g (hS g hg)) h0
 ·rw [World.cell?_of_block (hA _ hSB)]; exact hB
 ·obtain ⟨b, off, rfl, hb, hcs⟩ := hc hne
  exact ⟨b, off, rfl, fun j hj => by rw [World.cell?_of_block (hA b hb)]; exact hcs j hj⟩
end Go.Proofs
namespace Go.AI
open Go.Proofs
variable {tabI : Inhabited TabsD}
def qxU : Array Oper := #[(.mk (some 10) (.load 64 (.tmp 2)) 64 "wal.go:191" #[] none), (.mk (some 11) (.nilCheck (.tmp 10)) 0 "wal.go:191" #[(.mk 0 .data)] none), (.mk (some 12) (.fieldAddr 66 (.tmp 11) 1) 0 "wal.go:191" #[(.mk 1 .data)] none), (.mk (some 13) (.load 31 (.tmp 12)) 31 "wal.go:191" #[(.mk 2 .data)] none), (.mk (some 14) (.binOp .eql 31 (.tmp 13) (.const (.int .i64 0)) 31) 4 "wal.go:191" #[(.mk 3 .data)] none)]
def qmE : Array Oper := #[(.mk (some 16) (.load 64 (.tmp 2)) 64 "wal.go:192" #[] none), (.mk (some 17) (.load 64 (.tmp 2)) 64 "wal.go:192" #[(.mk 14 (.gcOnly .lateStores))] none), (.mk (some 18) (.load 64 (.tmp 2)) 64 "wal.go:192" #[] none), (.mk (some 19) (.nilCheck (.tmp 18)) 0 "wal.go:192" #[(.mk 2 .data)] none), (.mk (some 20) (.fieldAddr 66 (.tmp 19) 0) 0 "wal.go:192" #[(.mk 3 .data)] none), (.mk (some 21) (.load 30 (.tmp 20)) 30 "wal.go:192" #[(.mk 4 .data)] none), (.mk (some 22) (.move (.tmp 5)) 2 "wal.go:192" #[] none), (.mk (some 23) (.call (.mk (.value (.func 16)) #[(.tmp 22)] #[2])) 9 "wal.go:192" #[(.mk 6 .data)] none), (.mk (some 24) (.call (.mk (.value (.func 43)) #[(.tmp 21), (.tmp 23)] #[30, 9])) 47 "wal.go:192" #[(.mk 5 .data), (.mk 7 .data), (.mk 7 .chain)] none), (.mk (some 15) (.move (.tmp 24)) 47 "wal.go:192" #[(.mk 8 .data)] none), (.mk (some 25) (.extract (.tmp 15) 0) 30 "wal.go:192" #[(.mk 9 .data)] none), (.mk (some 26) (.extract (.tmp 15) 1) 31 "wal.go:192" #[(.mk 9 .data), (.mk 14 (.gcOnly .lateStores))] none), (.mk (some 27) (.nilCheck (.tmp 16)) 0 "wal.go:192" #[(.mk 0 .data), (.mk 0 .phase), (.mk 1 (.textOnly .lateStores)), (.mk 2 .phase), (.mk 3 .phase), (.mk 4 .phase), (.mk 5 .phase), (.mk 6 .phase), (.mk 7 .phase), (.mk 8 .phase), (.mk 9 .phase), (.mk 10 .phase), (.mk 11 (.textOnly .lateStores))] none), (.mk (some 28) (.fieldAddr 66 (.tmp 27) 0) 0 "wal.go:192" #[(.mk 12 .data), (.mk 0 .phase), (.mk 1 (.textOnly .lateStores)), (.mk 2 .phase), (.mk 3 .phase), (.mk 4 .phase), (.mk 5 .phase), (.mk 6 .phase), (.mk 7 .phase), (.mk 8 .phase), (.mk 9 .phase), (.mk 10 .phase), (.mk 11 (.textOnly .lateStores))] none), (.mk none (.store 30 (.tmp 28) (.tmp 25)) 0 "wal.go:192" #[(.mk 13 .data), (.mk 10 .data), (.mk 8 .chain), (.mk 0 .phase), (.mk 1 (.textOnly .lateStores)), (.mk 2 .phase), (.mk 3 .phase), (.mk 4 .phase), (.mk 5 .phase), (.mk 6 .phase), (.mk 7 .phase), (.mk 8 .phase), (.mk 9 .phase), (.mk 10 .phase), (.mk 11 (.textOnly .lateStores))] none), (.mk (some 29) (.nilCheck (.tmp 17)) 0 "wal.go:192" #[(.mk 1 .data), (.mk 0 .phase), (.mk 1 .phase), (.mk 2 .phase), (.mk 3 .phase), (.mk 4 .phase), (.mk 5 .phase), (.mk 6 .phase), (.mk 7 .phase), (.mk 8 .phase), (.mk 9 .phase), (.mk 10 .phase), (.mk 11 .phase), (.mk 12 .phase), (.mk 13 .phase), (.mk 14 .phase)] none), (.mk (some 30) (.fieldAddr 66 (.tmp 29) 1) 0 "wal.go:192" #[(.mk 15 .data), (.mk 0 .phase), (.mk 1 .phase), (.mk 2 .phase), (.mk 3 .phase), (.mk 4 .phase), (.mk 5 .phase), (.mk 6 .phase), (.mk 7 .phase), (.mk 8 .phase), (.mk 9 .phase), (.mk 10 .phase), (.mk 11 .phase), (.mk 12 .phase), (.mk 13 .phase), (.mk 14 .phase)] none), (.mk none (.store 31 (.tmp 30) (.tmp 26)) 0 "wal.go:192" #[(.mk 16 .data), (.mk 11 .data), (.mk 14 .chain), (.mk 0 .phase), (.mk 1 .phase), (.mk 2 .phase), (.mk 3 .phase), (.mk 4 .phase), (.mk 5 .phase), (.mk 6 .phase), (.mk 7 .phase), (.mk 8 .phase), (.mk 9 .phase), (.mk 10 .phase), (.mk 11 .phase), (.mk 12 .phase), (.mk 13 .phase), (.mk 14 .phase)] none)]
def remM3 : List AIns := [⟨(some 10), (.r (.load 1 false (.t 2))), none⟩, ⟨(some 11), (.p (.chk (.t 10))), none⟩, ⟨(some 12), (.p (.foff 4 (.t 11))), none⟩, ⟨(some 13), (.r (.load 1 false (.t 12))), none⟩, ⟨(some 14), (.p (.bin .eql (.t 13) (.c (.int .i64 0)))), none⟩]
def remM4 : List AIns := [⟨(some 16), (.r (.load 1 false (.t 2))), none⟩, ⟨(some 17), (.r (.load 1 false (.t 2))), none⟩, ⟨(some 18), (.r (.load 1 false (.t 2))), none⟩, ⟨(some 19), (.p (.chk (.t 18))), none⟩, ⟨(some 20), (.p (.foff 0 (.t 19))), none⟩, ⟨(some 21), (.r (.load 4 true (.t 20))), none⟩, ⟨(some 22), (.p (.mv (.t 5))), none⟩, ⟨(some 23), (.r (.call 16 [(.t 22)])), none⟩, ⟨(some 24), (.r (.call 43 [(.t 21), (.t 23)])), none⟩, ⟨(some 15), (.p (.mv (.t 24))), none⟩, ⟨(some 25), (.p (.ext (.t 15) 0)), none⟩, ⟨(some 26), (.p (.ext (.t 15) 1)), none⟩, ⟨(some 27), (.p (.chk (.t 16))), none⟩, ⟨(some 28), (.p (.foff 0 (.t 27))), none⟩, ⟨none, (.w (.store 4 (.t 28) (.t 25))), none⟩, ⟨(some 29), (.p (.chk (.t 17))), none⟩, ⟨(some 30), (.p (.foff 4 (.t 29))), none⟩, ⟨none, (.w (.store 1 (.t 30) (.t 26))), none⟩]
theorem rem_c3 : qk2 Tryd.prog qxU qxU.toList = some remM3 := by kernel_rfl
theorem rem_c4 : qk2 Tryd.prog qmE qmE.toList = some remM4 := by kernel_rfl
def remR : Rgn := { L := [(2, 2), (16, 100), (17, 100), (18, 100), (19, 100), (20, 100), (27, 100), (28, 100), (29, 100), (30, 100)], EL := [], AL := [], needs := [(2, 100)], S := [43], LB := [] }
theorem rem_ok : qxS qmE remM4 remR 2 100 = true := by kernel_rfl
end Go.AI
namespace Go.AI
open Go.Proofs
variable {tabI : Inhabited TabsD}
theorem rem_run3 {C : FuncId->Con} {ns p m : Id} {H : Hp} {x : Int} {d0 d1 d2 d3 : DV} {e : Int} (hp : H p = some (.box [.box m 0])) (hm : H m = some (.box [.val d0, .val d1, .val d2, .val d3, .val (.int .i64 e)])) :
  ∃ s1, run C ns remM3 ⟨⟨31, [(2, .box p 0), (5, .val (.int .i64 x))]⟩, H⟩ = some s1/\s1.H = H/\s1.env.n = 31/\look s1.env.l 14 = .val (.bool (e == 0))/\look s1.env.l 2 = .box p 0/\look s1.env.l 5 = .val (.int .i64 x) := by
 simp [remM3, run, step, eff, gv, qv7, qaC, qe7, qiU, qe2, evE, look, qw9, unw, qk1, hp, hm]
theorem rem_run4 {C : FuncId->Con} {ns p m : Id} {H : Hp} {l : List (Nat × AV)} {x e : Int} {d0 d1 d2 d3 c0 c1 c2 c3 : DV} {e' : Int} {sb : ByteArray} {fN fR : List DV->Option DV} (hpm : p ≠ m)
  (hp : H p = some (.box [.box m 0])) (hm : H m = some (.box [.val d0, .val d1, .val d2, .val d3, .val (.int .i64 e)])) (l2 : look l 2 = .box p 0) (l5 : look l 5 = .val (.int .i64 x))
  (c16 : C 16 = .val fN) (c43 : C 43 = .val fR) (hN : fN [.int .i64 x] = some (.str sb)) (hR : fR [.agg [d0, d1, d2, d3], .str sb] = some (.tup [.agg [c0, c1, c2, c3], .int .i64 e']))
  (n0 : d0.norm = d0) (n1 : d1.norm = d1) (n2 : d2.norm = d2) (n3 : d3.norm = d3) (k0 : c0.single = true) (k1 : c1.single = true) (k2 : c2.single = true) (k3 : c3.single = true) (q0 : d0.single = true) (q1 : d1.single = true) (q2 : d2.single = true) (q3 : d3.single = true) :
  ∃ s2, run (qm0 remR.S remR.LB C) ns remM4 ⟨⟨31, l⟩, H⟩ = some s2/\s2.H = upd H m (some (.box [.val c0, .val c1, .val c2, .val c3, .val (.int .i64 e')])) := by
 have y1 : (DV.int .i64 x).norm = .int .i64 x := rfl;have y2 : (DV.str sb).norm = .str sb := rfl;have y3 : (DV.int .i64 e').single = true := rfl
 have y4 : ∀ b1 b2, upd (upd H m b1) m b2 = upd H m b2 := fun b1 b2 => by
  funext id
  simp only [upd];split <;> rfl
 simp [y1, y2, y3, y4, remM4, remR, run, step, eff, gv, qv7, qaC, qe7, qiU, qe2, qt8, qdE, evE, look, qw9, unw, qk1, hp, hm, l2, l5, qm0, qx8, qf2, zf7, c16, c43, qf5, qz9, hN, hR, n0, n1, n2, n3, qw7, k0, k1, k2, k3, qc0, splice, -DV.single, -DV.flat, -DV.norm, -DV.norm1]
end Go.AI
namespace Go.AI
open Go.Proofs Go.RowKit Go.Shelf
variable {tabI : Inhabited TabsD}
abbrev qaT : Sh := .cons .str (.cons (.slice 1 (.int .u8)) (.cons (.int .i64) .nil))
abbrev qrG : Sh := .cons (.slice 3 qaT) (.cons (.int .i64) (.cons (.int .i64) (.cons .bool .nil)))
abbrev qn0 : Type := List (ByteArray × (List Int × (Int × Unit))) × (Int × (Int × (Bool × Unit)))
def qx3 (gN : Int × Unit->Option ByteArray) (gR : qn0 × (ByteArray × Unit)->Option (qn0 × (Int × Unit))) (s : qn0 × Int) (x : Int) : Option (qn0 × Int) :=
 bif s.2 == 0 then (gN (x, ())).bind fun b => (gR (s.1, (b, ()))).map fun r => (r.1, r.2.1) else some s
def qs5 (gN : Int × Unit->Option ByteArray) (gR : qn0 × (ByteArray × Unit)->Option (qn0 × (Int × Unit))) (s : qn0 × Int) : List Int->Option (qn0 × Int)
 | [] => some s
 | x :: l => (qx3 gN gR s x).bind fun s => qs5 gN gR s l
def qd6 (s : qn0 × Int) : List DV := qe1 qrG s.1 ++ [.int .i64 s.2]
theorem qmF (k : Nat) (l : List (List DV)) : (DV.norm1 (.sl k l)).norm = DV.norm1 (.sl k l)/\(DV.norm1 (.sl k l)).single = true := by
 cases l <;> exact ⟨rfl, rfl⟩
theorem qpI {k : Nat} {l : List (List DV)} (hk : 0 < k) (h : ∀ e ∈ l, ∀ d ∈ e, PosD d) : PosD (DV.norm1 (.sl k l)) := by
 cases l with
 | nil => exact .sl0 0
 | cons x l => exact .sl k (x :: l) hk h
theorem qiL (s : qn0 × Int) : ∀ d ∈ qd6 s, PosD d := by
 obtain ⟨⟨files, room, fuse, down, ⟨⟩⟩, e⟩ := s;have h : qd6 ((files, (room, (fuse, (down, ())))), e) = [DV.norm1 (.sl 3 (files.map (qe1 qaT))), .int .i64 room, .int .i64 fuse, .bool down, .int .i64 e] := rfl;rw [h];intro d hd;simp only [List.mem_cons, List.not_mem_nil, or_false] at hd;rcases hd with rfl | rfl | rfl | rfl | rfl
 ·refine qpI (by decide) (fun x hx d hd => ?_)
  obtain ⟨f, _, rfl⟩ := List.mem_map.1 hx;obtain ⟨name, data, sure, ⟨⟩⟩ := f;have h2 : qe1 qaT (name, (data, (sure, ()))) = [.str name, DV.norm1 (.sl 1 (data.map (qe1 (.int .u8)))), .int .i64 sure] := rfl;rw [h2] at hd;simp only [List.mem_cons, List.not_mem_nil, or_false] at hd;rcases hd with rfl | rfl | rfl
  ·exact .str _
  ·refine qpI (by decide) (fun x hx d hd => ?_)
   obtain ⟨b, _, rfl⟩ := List.mem_map.1 hx;have h3 : qe1 (.int .u8) b = [.int .u8 b] := rfl;rw [h3] at hd;simp only [List.mem_cons, List.not_mem_nil, or_false] at hd;subst hd;exact .int _ _
  ·exact .int _ _
 ·exact .int _ _
 ·exact .int _ _
 ·exact .bool _
 ·exact .int _ _
def remBody : Code := .block 1 (.seq (.region 3 qxU false) (.cond (.tmp 14) (.region 4 qmE true) .skip))
def quS (gN : Int × Unit->Option ByteArray) : TCn := ⟨[.int .i64], [.str], gN⟩
def quT (gR : qn0 × (ByteArray × Unit)->Option (qn0 × (Int × Unit))) : TCn := ⟨[qrG, .str], [qrG, .int .i64], gR⟩
theorem zv0 {C : FuncId->Con} (hC : qr4 Tryd.prog C) {gN : Int × Unit->Option ByteArray} {gR : qn0 × (ByteArray × Unit)->Option (qn0 × (Int × Unit))} (c16 : C 16 = .val (qm3 (quS gN))) (c43 : C 43 = .val (qm3 (quT gR)))
  {F0 : Nat->Prop} {W1 W : World} {gm gp : Nat} (hF0 : ∀ g, F0 g->Bet W1.heap.size gm gp g) (hT : qbK F0 W1) (hne : gm ≠ gp) (hm : gm < W1.heap.size) (hp : gp < W1.heap.size) {s s' : qn0 × Int} {x : Int} (hs : qx3 gN gR s x = some s') (hG : Good F0 W1 gm gp (qd6 s) W)
  {l n : Nat} {a : Act} (ha : a.tmps.size = 31) (ha2 : a.tmps[2]? = some (.pointer (some ⟨gp, 0, none⟩))) (ha5 : a.tmps[5]? = some (.int .i64 x)) {Q : Exit->Act->World->Prop}
  (hQ : ∀ a' W', KeepsFrom W1.heap.size W W'->Good F0 W1 gm gp (qd6 s') W'->Q .normal a' W') : remBody.wpIn (Fence.wide.inRound l) n Tryd.prog Q a W := by
 obtain ⟨⟨files, room, fuse, down, ⟨⟩⟩, e⟩ := s;have hcells : qd6 ((files, (room, (fuse, (down, ())))), e) = [DV.norm1 (.sl 3 (files.map (qe1 qaT))), .int .i64 room, .int .i64 fuse, .bool down, .int .i64 e] := rfl;have hH := hG.hrel hne hm hp hF0 hT;have hpm : rH (qd6 ((files, (room, (fuse, (down, ())))), e)) [1] = some (.box [.val (DV.norm1 (.sl 3 (files.map (qe1 qaT)))), .val (.int .i64 room), .val (.int .i64 fuse), .val (.bool down), .val (.int .i64 e)]) := rfl;have hpp : rH (qd6 ((files, (room, (fuse, (down, ())))), e)) [2] = some (.box [.box [1] 0]) := rfl
 have env : ∀ {J : Id->JI} {F : Nat->Prop} {w : World} {tmps : Array Value}, tmps.size = 31->(∀ v, tmps[2]? = some v->VRel J F w (.box [2] 0) v)->(∀ v, tmps[5]? = some v->VRel J F w (.val (.int .i64 x)) v)->qcL J F w ⟨31, [(2, .box [2] 0), (5, .val (.int .i64 x))]⟩ tmps := by
  intro J F w tmps h1 h2 h5;refine ⟨h1.symm, fun t v hv => ?_, fun t ht => ?_⟩
  ·by_cases e2 : t = 2
   ·subst e2; exact h2 v hv
   ·by_cases e5 : t = 5
    ·subst e5; exact h5 v hv
    ·have : look [(2, AV.box [2] 0), (5, .val (.int .i64 x))] t = .junk := by simp [look, Ne.symm e2, Ne.symm e5]
     rw [this]; exact .junk v
  ·have h2 : (31 : Nat)<=t := ht
   have : look [(2, AV.box [2] 0), (5, .val (.int .i64 x))] t = .junk := by
    simp [look, show ¬ 2 = t by omega, show ¬ 5 = t by omega]
   exact this
 have hJ1 : rJ gm gp (qd6 ((files, (room, (fuse, (down, ())))), e)).length [1] = .live (some gm) true 1 5 := rfl;have hJ2 : rJ gm gp (qd6 ((files, (room, (fuse, (down, ())))), e)).length [2] = .live (some gp) true 1 1 := rfl;have hE := env (J := rJ gm gp (qd6 ((files, (room, (fuse, (down, ())))), e)).length) (F := Bet' F0 W1.heap.size W) (w := W) ha (fun v hv => by rw [ha2] at hv; cases hv; exact .box [2] 0 gp true 1 1 hJ2) (fun v hv => by rw [ha5] at hv; cases hv; exact .val _ _ (.int _ _));obtain ⟨s1, r1, r2, r3, r4, r5, r6⟩ := rem_run3 (C := C) (ns := [3]) (x := x) hpp hpm;refine wpIn_block (wpIn_seq (zu9 hC rem_c3 (by kernel_rfl) hE hH r1 ?_));rintro a1 W' ⟨J', F', hE1, hH1, hX1, hd1⟩;rw [r2] at hH1
 have ht14 : a1.eval (.tmp 14) = .bool (e == 0) := by
  have h31 : a1.tmps.size = 31 := by rw [← hE1.1, r3]
  have hv := hE1.2.1 14 a1.tmps[14] (Array.getElem?_eq_getElem (by omega));rw [r4] at hv;show a1.tmps.getD 14 undef = _;rw [show a1.tmps.getD 14 undef = a1.tmps[14] by simp [Array.getD, h31]];generalize a1.tmps[14] = v at hv;cases hv with
  | val _ _ hr => cases hr; rfl
 have hf1 : KeepsFrom W1.heap.size W W' := Good.keeps hm hp hX1;show (Code.cond (.tmp 14) (.region 4 qmE true) .skip).wpIn (Fence.wide.inRound l) n Tryd.prog (Exit.inBlock 1 Q) a1 W';refine wpIn_cond_split ht14 (fun ht => ?_) (fun hf => ?_)
 ·have he : (e == 0) = true := ht
  unfold qx3 at hs;simp only [he, cond_true] at hs;obtain ⟨sb, hN, hs⟩ := Option.bind_eq_some_iff.1 hs;obtain ⟨r, hR, hs2⟩ := Option.map_eq_some_iff.1 hs;obtain ⟨⟨files', room', fuse', down', ⟨⟩⟩, e', ⟨⟩⟩ := r;subst hs2;have h31 : a1.tmps.size = 31 := by rw [← hE1.1, r3]
  have hE2 := env (J := J') (F := F') (w := W') h31 (fun v hv => by have := hE1.2.1 2 v hv; rwa [r5] at this) (fun v hv => by have := hE1.2.1 5 v hv; rwa [r6] at this)
  have hfN : qm3 (quS gN) [.int .i64 x] = some (.str sb) := by
   rw [qw1 (quS gN) (x, ()) (ds := [.int .i64 x]) rfl];show (gN (x, ())).map _ = _;rw [hN]; rfl
  have hfR : qm3 (quT gR) [.agg [DV.norm1 (.sl 3 (files.map (qe1 qaT))), .int .i64 room, .int .i64 fuse, .bool down], .str sb] = some (.tup [.agg [DV.norm1 (.sl 3 (files'.map (qe1 qaT))), .int .i64 room', .int .i64 fuse', .bool down'], .int .i64 e']) := by
   rw [qw1 (quT gR) ((files, (room, (fuse, (down, ())))), (sb, ())) (ds := [.agg [DV.norm1 (.sl 3 (files.map (qe1 qaT))), .int .i64 room, .int .i64 fuse, .bool down], .str sb]) rfl];show (gR ((files, (room, (fuse, (down, ())))), (sb, ()))).map _ = _;rw [hR]; rfl
  obtain ⟨s2, q1, q2⟩ := rem_run4 (C := C) (ns := [3]) (p := [2]) (m := [1]) (l := [(2, .box [2] 0), (5, .val (.int .i64 x))]) (by decide) hpp hpm rfl rfl c16 c43 hfN hfR (qmF _ _).1 rfl rfl rfl (qmF _ _).2 rfl rfl rfl (qmF _ _).2 rfl rfl rfl;refine draw_in (ids := fun c => if c = 2 then [2] else [1]) (t := 2) (c := 2) (d := 100) hC rem_c4 (by kernel_rfl) (by kernel_rfl) rem_ok (fun x hx => by cases hx) (by decide) (fun p hp => ?_) (fun p hp => by cases hp) (s := ⟨⟨31, [(2, .box [2] 0), (5, .val (.int .i64 x))]⟩, _⟩) hE2 hH1 ⟨zo1 ?_ trivial, rfl, rfl, rfl⟩ q1 ?_
  ·have : p = (2, 100) := by simpa [remR] using hp
   subst this
   decide
  ·exact ⟨⟨rfl, rfl⟩, trivial, trivial, trivial, trivial, trivial, trivial, trivial, trivial, trivial, trivial⟩
  ·rintro a2 W2 s'' heq ⟨J2, F2, hE3, hH3, hX3, hd3⟩
   rw [heq.H, q2] at hH3
   have hnew : upd (rH (qd6 ((files, (room, (fuse, (down, ())))), e))) [1] (some (.box [.val (DV.norm1 (.sl 3 (files'.map (qe1 qaT)))), .val (.int .i64 room'), .val (.int .i64 fuse'), .val (.bool down'), .val (.int .i64 e')])) = rH (qd6 ((files', (room', (fuse', (down', ())))), e')) := by
    funext i
    simp only [upd, rH];split
    ·rfl
    ·rfl
   rw [hnew] at hH3;have hX : Ext (rJ gm gp (qd6 ((files, (room, (fuse, (down, ())))), e)).length) (Bet' F0 W1.heap.size W) W J2 F2 W2 := hX1.trans ((qh9 J' F' W').trans hX3);exact hQ a2 W2 (Good.keeps hm hp hX) (Good.next rfl hm hp hG hH3 hX (qiL _))
 ·have he : (e == 0) = false := hf
  unfold qx3 at hs;simp only [he, cond_false] at hs;cases hs;exact wpIn_skip (hQ a1 W' hf1 (Good.next rfl hm hp hG hH1 hX1 (qiL _)))
end Go.AI
namespace Go.AI
open Go.Proofs Go.RowKit Go.Shelf
variable {tabI : Inhabited TabsD}
attribute [local go_sem] Oper.semAt_some
set_option maxRecDepth 100000 in
set_option maxHeartbeats 2000000 in
theorem zv1 {C : FuncId->Con} (hC : qr4 Tryd.prog C) {gN : Int × Unit->Option ByteArray} {gR : qn0 × (ByteArray × Unit)->Option (qn0 × (Int × Unit))} (c16 : C 16 = .val (qm3 (quS gN))) (c43 : C 43 = .val (qm3 (quT gR)))
  {w : World} {gm : Nat} {F0 : Nat->Prop} (hF0 : ∀ g, F0 g->g < w.heap.size/\g ≠ gm) {s0 : qn0 × Int} {zs : List Int} (Inv : qn0 × Int->Prop) (hI0 : Inv s0) (hI : ∀ s, Inv s->∀ z ∈ zs, ∃ s', qx3 gN gR s z = some s'/\Inv s')
  {vs : List Value} {t : TypeId} (hcur : w.heap[gm]? = some (.cells vs.toArray t (0, 0))) (hvl : vs.length = 5) (hv1 : ∀ v ∈ vs, v.oneCell' = true)
  (hrep : ∀ (j : Nat) d v, (qd6 s0)[j]? = some d->vs[j]? = some v->Rep F0 w d v)
  {p : Option Addr} {cap : Nat} (hreach : zs.length<=9223372036854775807) (hsl : zs ≠ []->∃ b off, p = some ⟨b, off, none⟩/\b ≠ gm/\∀ j, j < zs.length->w.cell? ⟨b, off + j, none⟩ = some (.int .i64 (zs[j]?.getD 0)))
  (hT : qbK F0 w) :
  Calls Tryd.prog 21 #[.pointer (some ⟨gm, 0, none⟩), .slice p zs.length cap] w fun e W' => e = .returned (.tuple #[])/\∃ s' W1, qs5 gN gR s0 zs.reverse = some s' ∧
   W1 = (w.alloc (.cells #[.pointer (some ⟨gm, 0, none⟩)] 64)).alloc (.cells #[.slice p zs.length cap] 52)/\Good F0 W1 gm w.heap.size (qd6 s') W' := by
 have hgm : gm < w.heap.size := (Array.getElem?_eq_some_iff.1 hcur).1;refine (callsIn_wide (n := 3)).1 ?_
 refine callsIn_of_wp_marks Tryd.func21 rfl trivial ?_ rfl
 simp only [Tryd.ntmps21, List.size_toArray, List.length_cons, List.length_nil, Nat.reduceAdd, Nat.reduceSub, Array.replicate_succ, Array.replicate_zero, List.push_toArray, List.append_toArray, List.nil_append, List.cons_append]
 gi_wp2_with (refine ⟨trivial, ?_⟩; gi_at_call 42; refine (back_in Fence.wide 2 trivial rfl _ _ _ _).mono ?_; rintro e w' ⟨rfl, rfl⟩)
 have hA : (w.alloc (.cells #[.pointer (some ⟨gm, 0, none⟩)] 64)).heap.size = w.heap.size + 1 := World.size_alloc _ _;obtain ⟨W1, hW1⟩ : ∃ W1, (w.alloc (.cells #[.pointer (some ⟨gm, 0, none⟩)] 64)).alloc (.cells #[.slice p zs.length cap] 52) = W1 := ⟨_, rfl⟩;rw [hW1];have hB0 : Below w.heap.size w W1 := by rw [← hW1]; exact ((Below.refl _ w).alloc (Nat.le_refl _) _).alloc (by simp) _
 have hsz : W1.heap.size = w.heap.size + 2 := by rw [← hW1, World.size_alloc, World.size_alloc]
 have hgp : W1.heap[w.heap.size]? = some (.cells #[.pointer (some ⟨gm, 0, none⟩)] 64 (0, 0)) := by
  rw [← hW1, Below.heap_alloc _ _ _ (by simp)]; exact World.alloc_heap_new w _
 have hBs : W1.cell? ⟨w.heap.size + 1, 0, none⟩ = some (.slice p zs.length cap) := by
  have := World.alloc_heap_new (w.alloc (.cells #[.pointer (some ⟨gm, 0, none⟩)] 64)) (.cells #[.slice p zs.length cap] 52);rw [World.size_alloc, hW1] at this;simp [World.cell?, this]
 have hG0 : Good F0 W1 gm w.heap.size (qd6 s0) W1 := by
  refine ⟨⟨vs, t, (hB0.block gm hgm).trans hcur, hvl, hv1, fun j d v h1 h2 => (hrep j d v h1 h2).mono (fun g hg => .inl hg) (fun g hg => hB0.block g (hF0 g hg).1)⟩, ⟨64, hgp⟩, fun _ _ => rfl, Nat.le_refl _, rfl, rfl, rfl⟩
 have hT1 : qbK F0 W1 := hT.mono (fun g hg => hg) (fun g hg => hB0.block g (hF0 g hg).1);have hF1 : ∀ g, F0 g->Bet W1.heap.size gm w.heap.size g := fun g hg => ⟨by have := (hF0 g hg).1; omega, (hF0 g hg).2, by have := (hF0 g hg).1; omega⟩
 have hInv : ∀ (l : List Int) s, (∀ z ∈ l, z ∈ zs)->Inv s->∀ s', qs5 gN gR s l = some s'->Inv s' := by
  intro l
  induction l with
  | nil => intro s _ hs s' h; cases h; exact hs
  | cons x l ih =>
   intro s hz hs s' h;obtain ⟨s2, h1, h2⟩ := hI s hs x (hz x List.mem_cons_self);simp only [qs5, h1, Option.bind_some] at h;exact ih s2 (fun z hz' => hz z (List.mem_cons_of_mem _ hz')) h2 s' h
 have happ : ∀ (l : List Int) s x, qs5 gN gR s (l ++ [x]) = (qs5 gN gR s l).bind fun s => qx3 gN gR s x := by
  intro l
  induction l with
  | nil => intro s x; simp [qs5]
  | cons y l ih =>
   intro s x;simp only [List.cons_append, qs5];cases qx3 gN gR s y with
   | none => rfl
   | some s2 => exact ih s2 x
 refine wpIn_rangeFunc_ownG (α := RX zs) (F := Fence.wide) (n := 3) rfl (by decide) (gf := 65) (lb := #[.pointer (some ⟨w.heap.size + 1, 0, none⟩)]) rfl trivial (enters_of Tryd.func65 (by kernel_rfl) rfl)
  (zi5 Fence.wide 2 trivial rfl (by decide) (w.heap.size + 1) p cap zs hreach (Bet W1.heap.size gm w.heap.size) W1 (fun g hg => hg.1) ⟨by omega, by omega, by omega⟩ hBs (fun hne => ?slice)) (fun h k g hg => (k g hg).trans (h g hg)) (fun W l o o' hl ho _ _ g hg => ?keep) (Below.refl _ _) (fun _ => rfl)
  (fun pre W => ∃ ds, ((qs5 gN gR s0 (pre.map (·.1.2))).map qd6) = some ds/\Good F0 W1 gm w.heap.size ds W)
  (fun _ _ _ => False)
  (Good.own hF1 _)
  (fun _ _ _ _ _ hs _ _ => hs)
  ⟨_, rfl, hG0⟩
  (fun x => { tmps := #[.pointer (some ⟨gm, 0, none⟩), .slice p zs.length cap, .pointer (some ⟨w.heap.size, 0, none⟩), undef, undef, .int .i64 x.1.2, .slice p zs.length cap, .func (.func 65) #[] #[.pointer (some ⟨w.heap.size + 1, 0, none⟩)], .int .i64 x.1.1, .int .i64 x.1.2, undef, undef, undef, undef, undef, undef, undef, undef, undef, undef, undef, undef, undef, undef, undef, undef, undef, undef, undef, undef, undef], defers := [] }) ?assign ?body ?done ?stop
 case slice =>
  obtain ⟨b, off, e1, e2, e3⟩ := hsl hne;have hpos : 0 < zs.length := List.length_pos_iff.2 hne
  have hb : b < w.heap.size := by
   obtain ⟨cs, t, q, h⟩ := qpH (e3 0 hpos);exact (Array.getElem?_eq_some_iff.1 h).1
  exact ⟨b, off, e1, ⟨by omega, e2, by omega⟩, fun j hj => (World.cell?_of_block (hB0.block b hb)).trans (e3 j hj)⟩
 case keep =>
  exact World.putObj_heap_other (by have := hg.1; omega)
 case assign =>
  intro l x W K hK
  gi_wp2
  exact hK
 case body =>
  rintro l pre x W ⟨ds, hds, hG⟩ _;obtain ⟨s, hs, rfl⟩ := Option.map_eq_some_iff.1 hds;have hs1 : Inv s := hInv _ s0 (fun z hz => by obtain ⟨x, _, rfl⟩ := List.mem_map.1 hz; exact x.2) hI0 s hs;obtain ⟨s', hst, _⟩ := hI s hs1 x.1.2 x.2;refine zv0 hC c16 c43 hF1 hT1 (by omega) (by omega) (by omega) hst hG rfl rfl rfl (fun a' W' hk hG' => ⟨hk, fun g hg => ?_, qd6 s', ?_, hG'⟩)
  ·rw [hG'.old g hg, hG.old g hg]
  ·rw [List.map_append, List.map_cons, List.map_nil, happ, hs]
   simp [hst]
 case done =>
  rintro D ys W hD hS ⟨ds, hds, hG⟩ hK;obtain ⟨s, hs, rfl⟩ := Option.map_eq_some_iff.1 hds
  have hlist : ys.map (·.1.2) = zs.reverse := by
   have h1 : ys.map (·.1.2) = (ys.map (·.1)).map (·.2) := by rw [List.map_map]; rfl
   rw [h1, hS]
   apply List.ext_getElem?
   intro i;by_cases hi : i < zs.length
   ·simp [qbZ, hi, List.getElem?_reverse hi, List.getElem?_eq_getElem (show zs.length - 1 - i < zs.length by omega)]
   ·rw [List.getElem?_eq_none (by simp [qbZ]; omega), List.getElem?_eq_none (by simp; omega)]
  rw [hlist] at hs;have hG2 := (Good.own hF1 (W1 := W1) (gm := gm) (gp := w.heap.size) (β := Unit) (fun _ => some (qd6 s))).putObj (.deferred none) (s := ()) ⟨_, rfl, hG⟩ hD hK rfl;obtain ⟨ds2, e2, hG2⟩ := hG2;cases e2
  gi_wp2
  refine ⟨by simp, .inl ⟨_, _, rfl, run_takeDeferred hK, ?_⟩⟩;exact ⟨_, results_none rfl _ _ _, rfl, s, W1, hs, hW1.symm, hG2⟩
 case stop =>
  rintro D c pre W _ _ h _;exact h.elim
end Go.AI
namespace Go.AI
open Go.Proofs Go.RowKit Go.Shelf
variable {tabI : Inhabited TabsD}
abbrev qrH : Sh := .cons qrG (.cons (.int .i64) .nil)
def remFine (gN : Int × Unit->Option ByteArray) (gR : qn0 × (ByteArray × Unit)->Option (qn0 × (Int × Unit))) (s : qn0 × Int) (zs : List Int) : Prop :=
 zs.length<=9223372036854775807/\∃ Inv : qn0 × Int->Prop, Inv s/\∀ s, Inv s->∀ z ∈ zs, ∃ s', qx3 gN gR s z = some s'/\Inv s'
open Classical in
noncomputable def remG (gN : Int × Unit->Option ByteArray) (gR : qn0 × (ByteArray × Unit)->Option (qn0 × (Int × Unit))) (a : (qn0 × (Int × Unit)) × (List Int × Unit)) : Option (qn0 × (Int × Unit)) :=
 if remFine gN gR (a.1.1, a.1.2.1) a.2.1 then (qs5 gN gR (a.1.1, a.1.2.1) a.2.1.reverse).map fun s => (s.1, (s.2, ())) else none
noncomputable def tcRem (gN : Int × Unit->Option ByteArray) (gR : qn0 × (ByteArray × Unit)->Option (qn0 × (Int × Unit))) : TCn := ⟨[qrH, .slice 1 (.int .i64)], [qrH], remG gN gR⟩
def qeR (zs : List Int) : List (List DV) := zs.map fun z => [.int .i64 z]
theorem qdZ.slice_ints {F : Nat->Prop} {w : World} {zs : List Int} {v : Value} (h : Rep F w (DV.norm1 (.sl 1 (qeR zs))) v) :
  ∃ p cap, v = .slice p zs.length cap/\(zs ≠ []->∃ b off, p = some ⟨b, off, none⟩/\F b/\∀ j, j < zs.length->w.cell? ⟨b, off + j, none⟩ = some (.int .i64 (zs[j]?.getD 0))) := by
 cases zs with
 | nil =>
  have h : Rep F w (.sl 0 []) v := h;cases h with
  | sl0 _ a c => exact ⟨a, c, rfl, fun h => absurd rfl h⟩
  | sl _ _ g o c vals => exact ⟨_, c, rfl, fun h => absurd rfl h⟩
 | cons z zs =>
  have h : Rep F w (.sl 1 (qeR (z :: zs))) v := h;cases h with
  | sl _ _ g o c vals hs hc h1 hF hcell hrep =>
   refine ⟨some ⟨g, o, none⟩, c, by rw [qeR, List.length_map], fun _ => ⟨g, o, rfl, hF, fun j hj => ?_⟩⟩;have e1 : (qeR (z :: zs))[j]? = some [.int .i64 (z :: zs)[j]] := by rw [qeR, List.getElem?_map, List.getElem?_eq_getElem hj]; rfl
   have h3 := hcell j 0 _ _ e1 rfl;have h4 := hrep j 0 _ _ e1 rfl;rw [List.getElem?_eq_getElem hj];have h5 : o + (j * 1 + 0) = o + j := by omega
   rw [h5] at h3;rw [h3];generalize vals j 0 = u at h4;cases h4;rfl
theorem remOk {C : FuncId->Con} (hC : qr4 Tryd.prog C) {gN : Int × Unit->Option ByteArray} {gR : qn0 × (ByteArray × Unit)->Option (qn0 × (Int × Unit))} (c16 : C 16 = .val (qm3 (quS gN))) (c43 : C 43 = .val (qm3 (quT gR))) : qj8 Tryd.prog 21 (qnR (tcRem gN gR)) := by
 refine ⟨⟨_, Tryd.func21, by kernel_rfl, by kernel_rfl⟩, fun ns avs H x H' hs J F w vs hH hv => ?_⟩;unfold qnR at hs;split at hs
 ·rename_i b rest
  split at hs
  ·rename_i cells hb
   split at hs
   ·rename_i ds ids hds
    split at hs
    ·rename_i H1 ys hf hq
     split at hs
     ·cases hs
     ·rename_i hcond
      simp only [Option.some.injEq, Prod.mk.injEq] at hs;obtain ⟨rfl, rfl⟩ := hs;simp only [Bool.or_eq_true, not_or] at hcond;obtain ⟨⟨⟨hcb, _⟩, _⟩, _⟩ := hcond;have hcb : ids.contains b = false := by simpa using hcb
      obtain ⟨r, hr, hys⟩ := Option.map_eq_some_iff.1 hq;unfold qm3 at hr;split at hr
      ·rename_i hex
       have hz := Classical.choose_spec hex
       revert hr hz
       generalize Classical.choose hex = a;intro hr hz;obtain ⟨⟨d, e, ⟨⟩⟩, zs, ⟨⟩⟩ : (qn0 × (Int × Unit)) × (List Int × Unit) := a;obtain ⟨q, hg, rfl⟩ := Option.map_eq_some_iff.1 hr;have hg : remG gN gR ((d, (e, ())), (zs, ())) = some q := hg;unfold remG at hg;split at hg
       ·rename_i hfine
        obtain ⟨hzl, Inv, hI0, hI⟩ := hfine;obtain ⟨s', hfold, rfl⟩ := Option.map_eq_some_iff.1 hg
        have hys2 : ys = (qd6 s').map .val := by
         have : (AV.val (.agg (qe1 qrH (s'.1, (s'.2, ()))))).cells = some ys := hys;have e2 : qe1 qrH (s'.1, (s'.2, ())) = qd6 s' := rfl;rw [e2] at this;exact (Option.some.inj this).symm
        subst hys2
        -- what was handed on, as data
        obtain ⟨J1, F1, hH1, hE1, hle⟩ := qbL hH hf;have hb1 : H1 b = some (.box cells) := (qbO hf hcb).trans hb;obtain ⟨hvl, hvv⟩ := hv;obtain ⟨hdl, hdd⟩ := (qt0 hH 99).2 _ _ _ hds
        have hzl2 : 2 = ds.length := by
         have := congrArg List.length hz;rw [List.length_map, List.length_map] at this;exact this
        have hrest : ∃ y1, rest = [y1] := by
         rw [hdl] at hzl2
         match rest, hzl2 with
         | [y1], _ => exact ⟨y1, rfl⟩
        obtain ⟨y1, rfl⟩ := hrest
        obtain ⟨d0, d1, rfl⟩ : ∃ d0 d1, ds = [d0, d1] := by
         match ds, hdl with
         | [d0, d1], _ => exact ⟨d0, d1, rfl⟩
        obtain ⟨v0, v1, rfl⟩ : ∃ v0 v1, vs = [v0, v1] := by
         match vs, hvl with
         | [v0, v1], _ => exact ⟨v0, v1, rfl⟩
        have hz0 : zA (.agg (qd6 (d, e))) = zA d0 := by
         have := congrArg (fun l => l[0]?) hz;exact Option.some.inj this
        have hz1 : zA (DV.norm1 (.sl 1 (qeR zs))) = zA d1 := by
         have := congrArg (fun l => l[1]?) hz;exact Option.some.inj this
        cases hH1.blk b _ hb1 with
        | box _ gm s c cur t hJ1 hcur hsz hcc h1 hk =>
         have hJ0 : ∃ own, J b = .live (some gm) own s c := by
          have hl := hE1.le b;rw [hJ1] at hl;cases hj : J b with
          | none => exact absurd hj (by
            have := hH.blk b _ hb;cases this with
            | box _ _ _ _ _ _ h => rw [h]; simp)
          | dead => rw [hj] at hl; cases hl
          | live g o s0 c0 => rw [hj] at hl; obtain ⟨e1, e2, e3, _⟩ := hl; subst e1 e2 e3; exact ⟨_, rfl⟩
         obtain ⟨own0, hJ0⟩ := hJ0
         obtain ⟨cur0, hcur0, hcc0⟩ : ∃ cur0 : Array Value, w.heap[gm]? = some (.cells cur0 t (0, 0))/\∀ (j : Nat) x v, cells[j]? = some x->cur0[j]? = some v->VRel J F w x v := by
          cases hH.blk b _ hb with
          | box _ g' s' c' cur' t' hJ' hg' hs' hc' h1' hk' =>
           rw [hJ'] at hJ0;cases hJ0;rw [hg'] at hcur;cases hcur;exact ⟨_, hg', hc'⟩
         have hcc1 : cur0 = cur := by rw [hcur0] at hcur; cases hcur; rfl
         subst hcc1
         have hv0 : v0 = .pointer (some ⟨gm, 0, none⟩) := by
          have h := hvv 0 _ _ rfl rfl;cases h with
          | box _ _ g' o' s' c' hj => rw [hJ0] at hj; cases hj; rfl
          | boxDead _ _ _ hj => rw [hJ0] at hj; cases hj
         subst hv0;have hF1 : ∀ g, F1 g->g < w.heap.size/\g ≠ gm := fun g hg => ⟨hH1.fsz g hg, fun e => hH1.own gm ⟨b, s, c, hJ1⟩ (e ▸ hg)⟩
         have hr0 : Rep F1 w (.agg (qd6 (d, e))) (.agg cur0) := by
          have h := (hdd 0 _ _ (.agg cur0) rfl rfl (by
           have : VRel J F w (.agg cells) (.agg cur0.toList.toArray) := .agg cells cur0.toList (by simpa using hsz) (fun j x v p1 p2 => hcc0 j x v p1 (by simpa using p2));simpa using this)).mono (F' := F1) (w' := w) hle (fun _ _ => rfl)
          exact qoW hz0.symm h
         have hr1 : Rep F1 w (DV.norm1 (.sl 1 (qeR zs))) v1 := by
          have h := (hdd 1 _ _ v1 rfl rfl (hvv 1 _ _ rfl rfl)).mono (F' := F1) (w' := w) hle (fun _ _ => rfl);exact qoW hz1.symm h
         obtain ⟨p, cap, rfl, hsl⟩ := qdZ.slice_ints hr1
         have hcv : cur0.toList.length = 5/\∀ (j : Nat) d' v, (qd6 (d, e))[j]? = some d'->cur0.toList[j]? = some v->Rep F1 w d' v := by
          generalize hu : (Value.agg cur0) = u at hr0;cases hr0 with
          | agg _ us hl hrep =>
           cases hu
           have h5 : (qd6 (d, e)).length = 5 := by
            obtain ⟨_, _, _, _, ⟨⟩⟩ := d;rfl
           exact ⟨by rw [← h5, ← hl], fun j d' v p1 p2 => hrep j d' v p1 (by simpa using p2)⟩
         have hcall := zv1 hC c16 c43 (w := w) (gm := gm) hF1 (s0 := (d, e)) (zs := zs) Inv hI0 hI (vs := cur0.toList) (t := t) (by simpa using hcur0) hcv.1 (fun v hv => by
          obtain ⟨j, hj⟩ := List.getElem?_of_mem hv
          exact h1 j v (by simpa using hj)) (fun j d' v p1 p2 => hcv.2 j d' v p1 p2) (p := p) (cap := cap) hzl (fun hne => by
          obtain ⟨bb, off, e1, e2, e3⟩ := hsl hne;exact ⟨bb, off, e1, (hF1 bb e2).2, e3⟩) hH1.tab
         refine hcall.mono ?_
         rintro en W' ⟨rfl, s2, W1, hf2, hW1, hG⟩;rw [hfold] at hf2;cases hf2;have hgm : gm < w.heap.size := (Array.getElem?_eq_some_iff.1 hcur0).1;have hB : Below w.heap.size w W1 := by rw [hW1]; exact ((Below.refl _ w).alloc (Nat.le_refl _) _).alloc (by simp) _
         have hsz1 : W1.heap.size = w.heap.size + 2 := by rw [hW1, World.size_alloc, World.size_alloc]
         have hold : ∀ g, g < w.heap.size->g ≠ gm->W'.heap[g]? = w.heap[g]? := fun g h1 h2 => (hG.old g ⟨by omega, h2, by omega⟩).trans (hB.block g h1)
         have hszW : w.heap.size<=W'.heap.size := Nat.le_trans hB.size hG.size;obtain ⟨us, t2, hg1, hg2, hg3, hg4⟩ := hG.cur;have hJb : ∀ {i : Id} {g : Nat} {o : Bool} {s' c' : Nat}, J1 i = .live (some g) o s' c'->i ≠ b->g ≠ gm := fun hj hi e => hi (hH1.inj _ _ _ _ _ _ _ _ _ (e ▸ hj) hJ1)
         have hne5 : (qd6 s').length = 5 := by
          obtain ⟨⟨_, _, _, _, ⟨⟩⟩, _⟩ := s';rfl
         have hF1W : ∀ g, F1 g->W'.heap[g]? = w.heap[g]? := fun g hg => hold g (hF1 g hg).1 (hF1 g hg).2
         refine ⟨.tuple #[], J1, fun g => F1 g\/(W1.heap.size<=g/\∃ cs t q, W'.heap[g]? = some (.cells cs t q)), rfl, .val _ _ (.tup [] [] rfl (by simp)), ?_, hE1.trans ?_⟩
         ·refine ⟨fun i bb hbb => ?_, fun i hi => ?_, hH1.inj, ?_, fun i g o s c h => Nat.lt_of_lt_of_le (hH1.live i g o s c h) hszW, ?_, ?_⟩
          ·by_cases e : i = b
           ·subst e
            rw [qc0] at hbb;cases hbb;refine .box _ gm s c us.toArray t2 hJ1 hg1 (by simpa using hg2) (fun j x v p1 p2 => ?_) (fun j v p => hg3 v (List.mem_of_getElem? (by simpa using p : us[j]? = some v))) ⟨hk.1, by rw [hk.2, ← hsz, List.length_map, hne5]; simpa using hcv.1⟩;rw [List.getElem?_map, Option.map_eq_some_iff] at p1;obtain ⟨d', p1, rfl⟩ := p1;exact .val d' v ((hg4 j d' v p1 (by simpa using p2)).mono (fun g h => h) (fun _ _ => rfl))
           ·rw [qc1 _ _ e] at hbb
            exact (hH1.blk i bb hbb).mono (fun _ => JI.le_refl _) rfl (fun g h => .inl h) hF1W (fun g s c h => hold g (hH1.live _ _ _ _ _ h) (hJb h e))
          ·by_cases e : i = b
           ·subst e; rw [qc0] at hi; cases hi
           ·rw [qc1 _ _ e] at hi; exact hH1.none i hi
          ·rintro g ho (h | ⟨h, _⟩)
           ·exact hH1.own g ho h
           ·obtain ⟨i, s, c, hj⟩ := ho
            have := hH1.live _ _ _ _ _ hj;omega
          ·rintro g (h | ⟨_, cs, t, q, h⟩)
           ·exact Nat.lt_of_lt_of_le (hF1 g h).1 hszW
           ·exact (Array.getElem?_eq_some_iff.1 h).1
          ·exact hH1.tab.mono (fun g h => .inl h) hF1W
         ·refine ⟨fun _ => JI.le_refl _, fun g h => .inl h, ?_, fun g h => .inl h, fun g hg ho => hold g hg (fun e => ho ⟨b, s, c, e ▸ hJ1⟩), hszW, hG.os.trans hB.os, hG.tape.trans hB.tape, hG.output.trans hB.output⟩
          rintro g (h | ⟨h, _⟩)
          ·exact .inl h
          ·exact .inr (.inr (by omega))
       ·cases hg
      ·cases hr
    ·cases hs
   ·cases hs
  ·cases hs
 ·cases hs
end Go.AI
