/- The plain law, a part of it. No condition. -/
import Derived.Test.YtganbdbpkoggmaaDoorL
import Derived.Laws.BitsAllLaws
import Derived.Lib.Bytealg
import Derived.Lib.Strings
import Derived.KernelRfl
set_option linter.unusedVariables false
set_option linter.unusedSimpArgs false
namespace Go.AI
def qd8 (ns : List Nat) : List Int := ns.map fun n : Nat => (n : Int)
theorem qb0 (ns : List Nat) : (qd8 ns).length = ns.length := by simp [qd8]
theorem qeT (a b : List Nat) : qd8 (a ++ b) = qd8 a ++ qd8 b := by simp [qd8]
theorem quW (a : Nat) (b : List Nat) : qd8 (a :: b) = (a : Int) :: qd8 b := rfl
theorem qmK (a : List Nat) (n : Nat) : (qd8 a).take n = qd8 (a.take n) := by simp [qd8, List.map_take]
theorem quX (a : List Nat) (n : Nat) : (qd8 a).drop n = qd8 (a.drop n) := by simp [qd8, List.map_drop]
theorem ints_get (ns : List Nat) (i : Nat) : (qd8 ns)[i]? = (ns[i]?).map fun n : Nat => (n : Int) := by simp [qd8]
theorem rg_u8 {x : Int} (h : (Lit.int .u8 x).wf = true) : 0<=x/\x < 256 := wf_u8 h
theorem qgC {α : Type} (l : List α) (i : Nat) : qj3 l (i : Int) = l[i]? := by
 unfold qj3;rw [if_pos (by omega)];rfl
theorem getI_lit {α : Type} (l : List α) (n : Int) (i : Nat) (h : n = (i : Int)) : qj3 l n = l[i]? := by
 subst h; exact qgC l i
theorem qmL {ns : List Nat} {i : Nat} (h : i < ns.length) : qj3 (qd8 ns) (i : Int) = some ((ns[i] : Nat) : Int) := by
 rw [qgC, ints_get, List.getElem?_eq_getElem h];rfl
theorem qt5 {α : Type} (l : List α) {a b : Nat} (h1 : a<=b) (h2 : b<=l.length) : qp0 l (a : Int) (b : Int) = some ((l.take b).drop a) := by
 unfold qp0;rw [if_pos (by omega)];rfl
theorem ql7 {α : Type} {l ys : List α} {b : Nat} (h : (l.length + ys.length) * b<=140737488355328) (h2 : l.length + ys.length<=maxLen) : qn7 l ys b = some (l ++ ys) := by
 unfold qn7;rw [if_pos ⟨h, h2⟩]
theorem qa4 {n : Int} (h0 : -9223372036854775808<=n) (h1 : n < 9223372036854775808) : IntKind.i64.wrap n = n := by
 rw [IntKind.wrap_i64]; omega
theorem qb8 {n : Nat} (h : n < 9223372036854775807) : IntKind.i64.wrap ((n : Int) + 1) = ((n + 1 : Nat) : Int) := by
 rw [qa4 (by omega) (by omega)]; rfl
theorem loop_up {β ε : Type} {step : β × (Int × Unit)->Option ((β × (Int × Unit)) ⊕ ε)} {n : Nat} (σ : Nat->β) {out : ε} (h1 : ∀ i, i < n->step (σ i, ((i : Int), ())) = some (.inl (σ (i + 1), (((i + 1 : Nat) : Int), ())))) (h2 : step (σ n, ((n : Int), ())) = some (.inr out)) {i : Nat} (hi : i<=n) : qb9 step (σ i, ((i : Int), ())) = some out := by
 generalize hk : n - i = k
 induction k generalizing i with
 | zero =>
  have : i = n := by omega
  subst this;exact qg2 h2
 | succ k ih =>
  rw [qh1 (h1 i (by omega))];exact ih (by omega) (by omega)
theorem qjT {β ε : Type} {step : β × (Int × Unit)->Option ((β × (Int × Unit)) ⊕ ε)} (n : Nat) (σ : Nat->β) {out : ε} (h1 : ∀ i, i < n->step (σ i, ((i : Int), ())) = some (.inl (σ (i + 1), (((i + 1 : Nat) : Int), ())))) (h2 : step (σ n, ((n : Int), ())) = some (.inr out)) {b : β} (hb : b = σ 0) : qb9 step (b, (0, ())) = some out := by
 subst hb;exact loop_up (n := n) σ h1 h2 (i := 0) (Nat.zero_le _)
open IntKind
theorem quY {τ ε σ : Type} {step : τ->Option (τ ⊕ ε)} (st : σ->τ) (I : σ->Prop) (Q : ε->Prop) (μ : σ->Nat)
  (h : ∀ x, I x->(∃ y, step (st x) = some (.inl (st y))/\I y/\μ y < μ x)\/∃ o, step (st x) = some (.inr o)/\Q o) {x : σ} (hx : I x) : ∃ o, qb9 step (st x) = some o/\Q o := by
 generalize hk : μ x = k
 induction k using Nat.strongRecOn generalizing x with
 | _ k ih =>
  rcases h x hx with ⟨y, h1, h2, h3⟩ | ⟨o, h1, h2⟩
  ·obtain ⟨o, q1, q2⟩ := ih (μ y) (by omega) h2 rfl
   exact ⟨o, by rw [qh1 h1]; exact q1, q2⟩
  ·exact ⟨o, qg2 h1, h2⟩
theorem zv2 {α β ε τ : Type} {step : τ->Option (τ ⊕ ε)} {l : List α} (st : Nat->β->τ) (F : List α->β->ε) (I : Nat->β->Prop) (hnil : ∀ b, I l.length b->step (st l.length b) = some (.inr (F [] b)))
  (hcons : ∀ i b (_ : i < l.length), I i b->(∃ b', step (st i b) = some (.inl (st (i + 1) b'))/\I (i + 1) b'/\F (l.drop i) b = F (l.drop (i + 1)) b')\/step (st i b) = some (.inr (F (l.drop i) b))) :
  ∀ {i : Nat} {b : β}, i<=l.length->I i b->qb9 step (st i b) = some (F (l.drop i) b) := by
 intro i b hi hI;generalize hk : l.length - i = k
 induction k generalizing i b with
 | zero =>
  have : i = l.length := by omega
  subst this;rw [List.drop_length];exact qg2 (hnil b hI)
 | succ k ih =>
  rcases hcons i b (by omega) hI with ⟨b', h1, h2, h3⟩ | h
  ·rw [qh1 h1, h3]
   exact ih (by omega) h2 (by omega)
  ·exact qg2 h
theorem qf4 {α β ε τ : Type} {step : τ->Option (τ ⊕ ε)} (l : List α) (st : Nat->β->τ) (F : List α->β->ε) (I : Nat->β->Prop) {t0 : τ} {b : β} (hnil : ∀ b, I l.length b->step (st l.length b) = some (.inr (F [] b)))
  (hcons : ∀ i b (_ : i < l.length), I i b->(∃ b', step (st i b) = some (.inl (st (i + 1) b'))/\I (i + 1) b'/\F (l.drop i) b = F (l.drop (i + 1)) b')\/step (st i b) = some (.inr (F (l.drop i) b))) (hI : I 0 b) (ht : t0 = st 0 b) : qb9 step t0 = some (F l b) := by
 subst ht;have := zv2 st F I hnil hcons (i := 0) (b := b) (by omega) hI
 rwa [List.drop_zero] at this
theorem qj1 {α : Type} {l : List α} {i : Nat} (h : i < l.length) : qj3 l (i : Int) = some l[i] := by
 rw [qgC, List.getElem?_eq_getElem h]
theorem qp7 {α : Type} {l : List α} {i : Nat} (h : i < l.length) : l.drop i = l[i] :: l.drop (i + 1) := List.drop_eq_getElem_cons h
theorem ltI {i n : Nat} (h : i < n) : decide ((i : Int) < (n : Int)) = true := decide_eq_true (by omega)
theorem qxW (n : Nat) : decide ((n : Int) < (n : Int)) = false := decide_eq_false (by omega)
open IntKind
theorem u8_tri (a b : UInt8) : a = b\/a < b\/b < a := by
 rcases Nat.lt_trichotomy a.toNat b.toNat with h | h | h
 ·exact .inr (.inl h)
 ·exact .inl (UInt8.toNat_inj.1 h)
 ·exact .inr (.inr h)
theorem qpJ : ∀ x : List UInt8, Go.Op.bytesLess x x = false
 | [] => rfl
 | a :: x => by simp [Go.Op.bytesLess, qpJ x]
theorem zv3 : ∀ x : List UInt8, Go.Op.bytesLess x [] = false
 | [] => rfl
 | a :: x => rfl
theorem quZ : ∀ {x y z : List UInt8}, Go.Op.bytesLess x y = true->Go.Op.bytesLess y z = true->Go.Op.bytesLess x z = true
 | x, [], z, h, _ => by rw [zv3] at h; cases h
 | x, _ :: _, [], _, h => by rw [zv3] at h; cases h
 | [], _ :: _, _ :: _, _, _ => rfl
 | a :: x, b :: y, c :: z, h, h' => by
  simp only [Go.Op.bytesLess, Bool.or_eq_true, Bool.and_eq_true, decide_eq_true_eq, beq_iff_eq] at h h' ⊢;rcases h with h | ⟨rfl, h⟩
  ·rcases h' with h' | ⟨rfl, h'⟩
   ·exact .inl (UInt8.lt_trans h h')
   ·exact .inl h
  ·rcases h' with h' | ⟨rfl, h'⟩
   ·exact .inl h'
   ·exact .inr ⟨rfl, quZ h h'⟩
theorem zv4 : ∀ {x y : List UInt8}, Go.Op.bytesLess x y = false->Go.Op.bytesLess y x = false->x = y
 | [], [], _, _ => rfl
 | [], _ :: _, h, _ => by cases h
 | _ :: _, [], _, h => by cases h
 | a :: x, b :: y, h, h' => by
  simp only [Go.Op.bytesLess, Bool.or_eq_false_iff, Bool.and_eq_false_iff, decide_eq_false_iff_not] at h h'
  have e : a = b := by
   rcases u8_tri a b with h1 | h1 | h1
   ·exact h1
   ·exact absurd h1 h.1
   ·exact absurd h1 h'.1
  subst e;rw [zv4 (h.2.resolve_left (by simp)) (h'.2.resolve_left (by simp))]
def ltS (a b : ByteArray) : Bool := Go.Op.bytesLess (ByteArray.toList a) (ByteArray.toList b)
theorem qo9 (a : ByteArray) : ltS a a = false := qpJ _
theorem qgD {a b c : ByteArray} (h : ltS a b = true) (h' : ltS b c = true) : ltS a c = true := quZ h h'
theorem toList_inj {a b : ByteArray} (h : ByteArray.toList a = ByteArray.toList b) : a = b := by
 rw [Lib.toList_data, Lib.toList_data] at h;cases a; cases b;rename_i x y
 congr 1
 exact Array.toList_inj.1 h
theorem ltS_tri {a b : ByteArray} (h : ltS a b = false) (h' : ltS b a = false) : a = b := toList_inj (zv4 h h')
theorem qpK {a b : ByteArray} (h : ltS a b = true) : a ≠ b := fun e => by subst e; rw [qo9] at h; cases h
theorem zv6 : ∀ x y : List UInt8, Lib.compareBytes x y = if Go.Op.bytesLess x y = true then -1 else if x = y then 0 else 1
 | [], [] => by simp [Lib.compareBytes, Go.Op.bytesLess]
 | [], _ :: _ => by simp [Lib.compareBytes, Go.Op.bytesLess]
 | _ :: _, [] => by simp [Lib.compareBytes, Go.Op.bytesLess]
 | a :: x, b :: y => by
  simp only [Lib.compareBytes, Go.Op.bytesLess, zv6 x y];by_cases h1 : a < b
  ·simp [h1]
  ·by_cases h2 : b < a
   ·have : a ≠ b := fun e => by subst e; exact h1 h2
    simp [h1, h2, this]
   ·have e : a = b := by
     rcases u8_tri a b with h3 | h3 | h3
     ·exact h3
     ·exact absurd h3 h1
     ·exact absurd h3 h2
    subst e;simp
theorem zv7 (a b : ByteArray) : zu3 a b = if ltS a b = true then -1 else if a = b then 0 else 1 := by
 unfold zu3 ltS;rw [Lib.cmp_eq, zv6, Lib.toList_data, Lib.toList_data];have : (a.data.toList = b.data.toList) ↔ a = b := ⟨fun h => toList_inj (by rw [Lib.toList_data, Lib.toList_data]; exact h), fun h => by rw [h]⟩;simp only [this]
abbrev qb1 := ByteArray × (List Int × (Int × Unit))
def Srt (l : List qb1) : Prop := l.Pairwise fun f g => ltS f.1 g.1 = true
def qh8 : List qb1->ByteArray->Option qb1
 | [], _ => none
 | f :: l, n => if f.1 = n then some f else qh8 l n
def qk5 : List qb1->qb1->List qb1
 | [], f => [f]
 | x :: l, f => if ltS x.1 f.1 = true then x :: qk5 l f else if x.1 = f.1 then f :: l else f :: x :: l
def qiM : List qb1->ByteArray->List qb1
 | [], _ => []
 | x :: l, n => if x.1 = n then l else x :: qiM l n
def qd7 : List qb1->ByteArray->Nat
 | [], _ => 0
 | x :: l, n => if ltS x.1 n = true then qd7 l n + 1 else 0
def qh7 : List qb1->Nat
 | [] => 0
 | f :: l => f.2.1.length + qh7 l
theorem Srt.tail {x : qb1} {l : List qb1} (h : Srt (x :: l)) : Srt l := (List.pairwise_cons.1 h).2
theorem Srt.head {x : qb1} {l : List qb1} (h : Srt (x :: l)) : ∀ f ∈ l, ltS x.1 f.1 = true := (List.pairwise_cons.1 h).1
theorem qh5 {l : List qb1} {n : ByteArray} {f : qb1} (h : qh8 l n = some f) : f.1 = n := by
 induction l with
 | nil => cases h
 | cons x l ih =>
  simp only [qh8] at h;split at h
  ·cases h; assumption
  ·exact ih h
theorem qi0 {l : List qb1} {n : ByteArray} {f : qb1} (h : qh8 l n = some f) : f ∈ l := by
 induction l with
 | nil => cases h
 | cons x l ih =>
  simp only [qh8] at h;split at h
  ·cases h; exact List.mem_cons_self
  ·exact List.mem_cons_of_mem _ (ih h)
theorem qgE {l : List qb1} {n : ByteArray} (h : ∀ f ∈ l, f.1 ≠ n) : qh8 l n = none := by
 induction l with
 | nil => rfl
 | cons x l ih =>
  simp only [qh8];rw [if_neg (h x List.mem_cons_self)];exact ih fun f hf => h f (List.mem_cons_of_mem _ hf)
theorem qeU {l : List qb1} (hs : Srt l) {f : qb1} (h : f ∈ l) : qh8 l f.1 = some f := by
 induction l with
 | nil => cases h
 | cons x l ih =>
  simp only [qh8];rcases List.mem_cons.1 h with rfl | h
  ·rw [if_pos rfl]
  ·rw [if_neg (qpK (hs.head f h))]
   exact ih hs.tail h
theorem qrI {l : List qb1} {f g : qb1} (h : g ∈ qk5 l f) : g = f\/g ∈ l := by
 induction l with
 | nil => simp [qk5] at h; exact .inl h
 | cons x l ih =>
  simp only [qk5] at h;split at h
  ·rcases List.mem_cons.1 h with rfl | h
   ·exact .inr List.mem_cons_self
   ·exact (ih h).imp id (List.mem_cons_of_mem _)
  ·split at h
   ·rcases List.mem_cons.1 h with rfl | h
    ·exact .inl rfl
    ·exact .inr (List.mem_cons_of_mem _ h)
   ·rcases List.mem_cons.1 h with rfl | h
    ·exact .inl rfl
    ·exact .inr h
theorem putF_srt {l : List qb1} (hs : Srt l) (f : qb1) : Srt (qk5 l f) := by
 induction l with
 | nil => exact List.pairwise_singleton _ _
 | cons x l ih =>
  simp only [qk5];split
  ·rename_i h
   refine List.pairwise_cons.2 ⟨fun g hg => ?_, ih hs.tail⟩;rcases qrI hg with rfl | hg
   ·exact h
   ·exact hs.head g hg
  ·rename_i h
   split
   ·rename_i e
    refine List.pairwise_cons.2 ⟨fun g hg => ?_, hs.tail⟩;rw [← e]; exact hs.head g hg
   ·rename_i e
    have h1 : ltS f.1 x.1 = true := by
     cases hq : ltS f.1 x.1 with
     | true => rfl
     | false => exact absurd (ltS_tri (by simpa using h) hq) e
    refine List.pairwise_cons.2 ⟨fun g hg => ?_, hs⟩;rcases List.mem_cons.1 hg with rfl | hg
    ·exact h1
    ·exact qgD h1 (hs.head g hg)
theorem zv8 {l : List qb1} (hs : Srt l) (f : qb1) (n : ByteArray) : qh8 (qk5 l f) n = if f.1 = n then some f else qh8 l n := by
 induction l with
 | nil => simp [qk5, qh8]
 | cons x l ih =>
  simp only [qk5];split
  ·rename_i h
   simp only [qh8, ih hs.tail];by_cases hx : x.1 = n
   ·rw [if_pos hx, if_pos hx, if_neg]
    intro e;exact qpK h (hx.trans e.symm)
   ·rw [if_neg hx, if_neg hx]
  ·rename_i h
   split
   ·rename_i e
    simp only [qh8];by_cases hx : f.1 = n
    ·rw [if_pos hx, if_pos hx]
    ·rw [if_neg hx, if_neg hx, if_neg (fun q => hx (e.symm.trans q))]
   ·simp only [qh8]
theorem qrJ {l : List qb1} {n : ByteArray} {g : qb1} (h : g ∈ qiM l n) : g ∈ l := by
 induction l with
 | nil => cases h
 | cons x l ih =>
  simp only [qiM] at h;split at h
  ·exact List.mem_cons_of_mem _ h
  ·rcases List.mem_cons.1 h with rfl | h
   ·exact List.mem_cons_self
   ·exact List.mem_cons_of_mem _ (ih h)
theorem delF_srt {l : List qb1} (hs : Srt l) (n : ByteArray) : Srt (qiM l n) := by
 induction l with
 | nil => exact hs
 | cons x l ih =>
  simp only [qiM];split
  ·exact hs.tail
  ·exact List.pairwise_cons.2 ⟨fun g hg => hs.head g (qrJ hg), ih hs.tail⟩
theorem zv9 {l : List qb1} (hs : Srt l) (m n : ByteArray) : qh8 (qiM l m) n = if m = n then none else qh8 l n := by
 induction l with
 | nil => simp [qiM, qh8]
 | cons x l ih =>
  simp only [qiM];split
  ·rename_i e
   by_cases hmn : m = n
   ·rw [if_pos hmn]
    exact qgE fun f hf => by rw [← hmn, ← e]; exact (qpK (hs.head f hf)).symm
   ·rw [if_neg hmn]
    simp only [qh8];rw [if_neg (fun q => hmn (e.symm.trans q))]
  ·rename_i e
   simp only [qh8, ih hs.tail];by_cases hx : x.1 = n
   ·rw [if_pos hx, if_pos hx, if_neg (fun q => e (hx.trans q.symm))]
   ·rw [if_neg hx, if_neg hx]
theorem qmM {l : List qb1} {f : qb1} (h : qh8 l f.1 = none) : (qk5 l f).length = l.length + 1 := by
 induction l with
 | nil => rfl
 | cons x l ih =>
  simp only [qh8] at h;split at h
  ·cases h
  ·rename_i e
   simp only [qk5];split
   ·simp [ih h]
   ·simp [e]
theorem qcB {l : List qb1} (hs : Srt l) {f g : qb1} (h : qh8 l f.1 = some g) : (qk5 l f).length = l.length := by
 induction l with
 | nil => cases h
 | cons x l ih =>
  simp only [qh8] at h;simp only [qk5];split at h
  ·rename_i e
   rw [if_neg (by rw [e, qo9]; simp), if_pos e];rfl
  ·have hlt : ltS x.1 f.1 = true := by
    have h1 := hs.head g (qi0 h)
    rwa [qh5 h] at h1
   rw [if_pos hlt, List.length_cons, ih hs.tail h];rfl
theorem zw0 {l : List qb1} {n : ByteArray} (h : qh8 l n = none) : qiM l n = l := by
 induction l with
 | nil => rfl
 | cons x l ih =>
  simp only [qiM, qh8] at h ⊢;split
  ·rename_i e; rw [if_pos e] at h; cases h
  ·rename_i e; rw [if_neg e] at h; rw [ih h]
theorem qnT {l : List qb1} {f : qb1} (h : qh8 l f.1 = none) : qh7 (qk5 l f) = qh7 l + f.2.1.length := by
 induction l with
 | nil => simp [qk5, qh7]
 | cons x l ih =>
  simp only [qh8] at h;split at h
  ·cases h
  ·rename_i e
   simp only [qk5];split
   ·simp only [qh7, ih h]; omega
   ·simp only [e, if_false, qh7]; omega
theorem qdT {l : List qb1} (hs : Srt l) {f g : qb1} (h : qh8 l f.1 = some g) : qh7 (qk5 l f) + g.2.1.length = qh7 l + f.2.1.length := by
 induction l with
 | nil => cases h
 | cons x l ih =>
  simp only [qh8] at h;simp only [qk5];split at h
  ·rename_i e
   cases h;rw [if_neg (by rw [e, qo9]; simp), if_pos e];simp only [qh7]; omega
  ·rename_i e
   have hlt : ltS x.1 f.1 = true := by
    have := qi0 h;have h1 := hs.head g this
    rwa [qh5 h] at h1
   rw [if_pos hlt];have := ih hs.tail h;simp only [qh7]; omega
theorem zi6 {l : List qb1} {n : ByteArray} {g : qb1} (h : qh8 l n = some g) : qh7 (qiM l n) + g.2.1.length = qh7 l := by
 induction l with
 | nil => cases h
 | cons x l ih =>
  simp only [qh8] at h;simp only [qiM];split at h
  ·rename_i e
   cases h;rw [if_pos e];simp only [qh7]; omega
  ·rename_i e
   rw [if_neg e];have := ih h;simp only [qh7]; omega
theorem zw1 {l : List qb1} {f : qb1} (h : f ∈ l) : f.2.1.length<=qh7 l := by
 induction l with
 | nil => cases h
 | cons x l ih =>
  simp only [qh7];rcases List.mem_cons.1 h with rfl | h
  ·omega
  ·have := ih h; omega
theorem zc3 (l : List qb1) (n : ByteArray) : qd7 l n<=l.length := by
 induction l with
 | nil => exact Nat.le_refl _
 | cons x l ih =>
  simp only [qd7, List.length_cons];split <;> omega
theorem rankF_lt {l : List qb1} {n : ByteArray} {i : Nat} (h : i < qd7 l n) (hi : i < l.length) : ltS (l[i]).1 n = true := by
 induction l generalizing i with
 | nil => simp at hi
 | cons x l ih =>
  simp only [qd7] at h;split at h
  ·rename_i hx
   cases i with
   | zero => exact hx
   | succ i => exact ih (by omega) (by simpa using hi)
  ·omega
theorem rankF_ge {l : List qb1} (hs : Srt l) {n : ByteArray} {i : Nat} (h : qd7 l n<=i) (hi : i < l.length) : ltS (l[i]).1 n = false := by
 induction l generalizing i with
 | nil => simp at hi
 | cons x l ih =>
  simp only [qd7] at h;split at h
  ·cases i with
   | zero => omega
   | succ i => exact ih hs.tail (by omega) (by simpa using hi)
  ·rename_i hx
   cases i with
   | zero => simpa using hx
   | succ i =>
    cases hq : ltS ((x :: l)[i + 1]).1 n with
    | false => rfl
    | true =>
     have := hs.head (l[i]'(by simpa using hi)) (List.getElem_mem _);exact absurd (qgD this hq) hx
theorem qvA {l : List qb1} (hs : Srt l) (n : ByteArray) : qh8 l n = match l[qd7 l n]? with
  | some f => if f.1 = n then some f else none
  | none => none := by
 induction l with
 | nil => rfl
 | cons x l ih =>
  by_cases h : ltS x.1 n = true
  ·have e : qd7 (x :: l) n = qd7 l n + 1 := by simp only [qd7]; rw [if_pos h]
   rw [e, List.getElem?_cons_succ, ← ih hs.tail];simp only [qh8];rw [if_neg (qpK h)]
  ·have e : qd7 (x :: l) n = 0 := by simp only [qd7]; rw [if_neg h]
   rw [e, List.getElem?_cons_zero];simp only [qh8];by_cases hx : x.1 = n
   ·rw [if_pos hx, if_pos hx]
   ·rw [if_neg hx, if_neg hx]
    refine qgE fun f hf hq => ?_
    have h1 := hs.head f hf;rw [hq] at h1;exact h h1
theorem qhL {l : List qb1} (hs : Srt l) {n : ByteArray} {f : qb1} (h : qh8 l n = some f) : l[qd7 l n]? = some f := by
 rw [qvA hs] at h;split at h
 ·rename_i g hg
  split at h
  ·cases h; exact hg
  ·cases h
 ·cases h
theorem qrK {l : List qb1} (hs : Srt l) {f g : qb1} (h : qh8 l f.1 = some g) : qk5 l f = l.set (qd7 l f.1) f := by
 induction l with
 | nil => cases h
 | cons x l ih =>
  simp only [qh8] at h;simp only [qk5, qd7];split at h
  ·rename_i e
   rw [if_neg (by rw [e, qo9]; simp), if_pos e, if_neg (by rw [e, qo9]; simp)];rfl
  ·have hlt : ltS x.1 f.1 = true := by
    have h1 := hs.head g (qi0 h)
    rwa [qh5 h] at h1
   rw [if_pos hlt, if_pos hlt, ih hs.tail h];rfl
theorem putF_new {l : List qb1} {f : qb1} (h : qh8 l f.1 = none) : qk5 l f = l.take (qd7 l f.1) ++ f :: l.drop (qd7 l f.1) := by
 induction l with
 | nil => rfl
 | cons x l ih =>
  simp only [qh8] at h;split at h
  ·cases h
  ·rename_i e
   simp only [qk5, qd7];split
   ·rw [ih h]; rfl
   ·rfl
theorem delF_at {l : List qb1} (hs : Srt l) {n : ByteArray} {f : qb1} (h : qh8 l n = some f) : qiM l n = l.take (qd7 l n) ++ l.drop (qd7 l n + 1) := by
 induction l with
 | nil => cases h
 | cons x l ih =>
  simp only [qh8] at h;simp only [qiM, qd7];split at h
  ·rename_i e
   rw [if_pos e, if_neg (by rw [e, qo9]; simp)];rfl
  ·rename_i e
   have hlt : ltS x.1 n = true := by
    have h1 := hs.head f (qi0 h)
    rwa [qh5 h] at h1
   rw [if_neg e, if_pos hlt, ih hs.tail h];rfl
open IntKind
abbrev qa3 := List qb1 × (Int × (Int × (Bool × Unit)))
def qvB (n : Int) : Bool := decide ((97<=n/\n<=122)\/(48<=n/\n<=57)\/n = 46)
def qn3 (s : ByteArray) : Bool := (bytesOf s).all qvB && decide (1<=s.size/\s.size<=16)
theorem qdU (s : ByteArray) : (bytesOf s).length = s.size := by
 unfold bytesOf;rw [List.length_map, Array.length_toList];rfl
theorem idxB_nat {s : ByteArray} {i : Nat} (h : i < (bytesOf s).length) : idxB s (i : Int) = some (bytesOf s)[i] := by
 have h2 : i < s.size := by rwa [qdU] at h
 unfold idxB;rw [if_pos (by omega)];have h3 : i < s.data.toList.length := by rw [Array.length_toList]; exact h2
 simp only [Int.toNat_natCast, bytesOf, List.getElem_map, List.getD_eq_getElem?_getD, List.getElem?_eq_getElem h3, Option.getD_some]
theorem zw2 (n : Int) : qaU (n, ()) = some (qvB n) := by
 unfold qaU qvB;simp only [Option.some.injEq];by_cases h1 : 97<=n <;> by_cases h2 : n<=122 <;> by_cases h3 : 48<=n <;> by_cases h4 : n<=57 <;> by_cases h5 : n = 46 <;> simp [h1, h2, h3, h4, h5]
def zi7 : List Int->Unit->Unit ⊕ Bool
 | [], _ => .inl ()
 | n :: l, u => if qvB n = true then zi7 l u else .inr false
theorem qvC {b : Bool} : ∀ l : List Int, eX (fun _ => some b) (zi7 l ()) = some (l.all qvB && b)
 | [] => rfl
 | n :: l => by
  unfold zi7;cases h : qvB n with
  | true => simp only [if_true, qvC l, List.all_cons, h, Bool.true_and]
  | false => simp [eX, List.all_cons, h]
theorem qpL (s : ByteArray) (hs : s.size<=maxLen) : qs1 (s, ()) = some (qn3 s) := by
 unfold qs1 qn3;have hl := qdU s;have hm : maxLen = 9223372036854775807 := rfl;rw [qf4 (bytesOf s) (fun i (b : Unit) => ((i : Int), ())) zi7 (fun _ _ => True) (b := ()) ?_ ?_ trivial (by rfl)]
 ·rw [Option.bind_some, qvC]
  congr 2
  by_cases h1 : 1<=s.size <;> by_cases h2 : s.size<=16 <;> simp [h1, h2] <;> omega
 ·intro b _
  simp only [hl, qxW, cond_false];rfl
 ·intro i b hi _
  have hi2 : i < s.size := by rwa [hl] at hi
  simp only [ltI hi2, cond_true, idxB_nat hi, Option.bind_some, zw2];rw [qp7 hi];generalize (bytesOf s)[i] = n;cases h : qvB n with
  | true =>
   left;refine ⟨(), ?_, trivial, ?_⟩
   ·simp only [Bool.not_true, cond_false, qb8 (n := i) (by omega)]
   ·conv => lhs; unfold zi7
    rw [if_pos h]
  | false =>
   right;simp only [Bool.not_false, cond_true];unfold zi7;rw [h];rfl
def qjA (p : Option ByteArray) (n : ByteArray) : Bool := match p with
 | none => true
 | some q => ltS q n
def okL : Option ByteArray->Int->List qb1->Bool
 | _, _, [] => true
 | p, r, f :: l => qn3 f.1 && qjA p f.1 && decide (0<=f.2.2.1/\f.2.2.1<=f.2.1.length/\(f.2.1.length : Int)<=r) && okL (some f.1) (r - f.2.1.length) l
def qq1 (d : qa3) : Bool := decide (0<=d.2.1/\d.2.1<=65536/\-1<=d.2.2.1/\d.1.length<=64) && okL none d.2.1 d.1
def qv1 (l : List qb1) : Prop := ∀ f ∈ l, f.1.size<=maxLen
def qpM : List qb1->Option ByteArray × Int->Unit ⊕ Bool
 | [], _ => .inl ()
 | f :: l, b => if (qn3 f.1 && qjA b.1 f.1 && decide (0<=f.2.2.1/\f.2.2.1<=f.2.1.length/\(f.2.1.length : Int)<=b.2)) = true then qpM l (some f.1, b.2 - f.2.1.length) else .inr false
theorem qpN : ∀ (l : List qb1) (b : Option ByteArray × Int), eX (fun _ => some true) (qpM l b) = some (okL b.1 b.2 l)
 | [], _ => rfl
 | f :: l, b => by
  unfold qpM okL;cases h : (qn3 f.1 && qjA b.1 f.1 && decide (0<=f.2.2.1/\f.2.2.1<=f.2.1.length/\(f.2.1.length : Int)<=b.2)) with
  | true => simp only [if_true, qpN l, Bool.true_and]
  | false => rfl
def zc4 (l : List qb1) (i : Nat) : Option ByteArray := if i = 0 then none else (l[i - 1]?).map (·.1)
theorem qcZ (d : qa3) (hn : qv1 d.1) : qi6 (d, ()) = some (qq1 d) := by
 obtain ⟨l, room, fuse, down, ⟨⟩⟩ := d;unfold qi6 qq1;simp only;by_cases c : 0<=room/\room<=65536/\-1<=fuse/\l.length<=64
 ·obtain ⟨c1, c2, c3, c4⟩ := c
  have e : ((((decide (room < 0)) || (decide (room > 65536))) || (decide (fuse < (-1)))) || (decide ((l.length : Int) > 64))) = false := by simp; omega
  rw [e, cond_false, decide_eq_true (⟨c1, c2, c3, c4⟩ : 0<=room/\room<=65536/\-1<=fuse/\l.length<=64), Bool.true_and];rw [qf4 l (fun i (b : Option ByteArray × Int) => (b.2, ((i : Int), ()))) qpM (fun i b => b.1 = zc4 l i/\0<=b.2/\b.2<=65536) (b := (none, room)) ?_ ?_ ⟨rfl, c1, c2⟩ (by rfl)]
  ·rw [Option.bind_some, qpN]
  ·intro b _
   simp only [qxW, cond_false];rfl
  ·intro i b hi hb
   obtain ⟨p, r⟩ := b;obtain ⟨hp, hr0, hr1⟩ := hb;simp only at hp hr0 hr1;simp only [ltI hi, cond_true, qj1 hi, Option.bind_some];rw [qpL _ (hn _ (List.getElem_mem hi))];simp only [Option.bind_some]
   have e3 : (bif decide ((i : Int) > 0) then (qj3 l (IntKind.wrap .i64 ((i : Int) - 1))).bind fun v4 => some (!(Go.Op.bytesLess (ByteArray.toList v4.1) (ByteArray.toList (l[i]).1))) else some false) = some (!qjA p (l[i]).1) := by
    by_cases h0 : i = 0
    ·subst h0
     subst hp;rfl
    ·have e : decide ((i : Int) > 0) = true := decide_eq_true (by omega)
     rw [e, cond_true, qa4 (by omega) (by omega), getI_lit l ((i : Int) - 1) (i - 1) (by omega), List.getElem?_eq_getElem (by omega), Option.bind_some];subst hp;unfold zc4;rw [if_neg h0, List.getElem?_eq_getElem (by omega)];rfl
   rw [e3];simp only [Option.bind_some];rw [qp7 hi]
   have hpi : zc4 l (i + 1) = some (l[i]).1 := by
    unfold zc4;rw [if_neg (by omega), Nat.add_sub_cancel, List.getElem?_eq_getElem hi];rfl
   generalize l[i] = f at hpi
   have e4 : (bif !qn3 f.1 then some true else some (!qjA p f.1)) = some (!(qn3 f.1 && qjA p f.1)) := by
    cases qn3 f.1 <;> cases qjA p f.1 <;> rfl
   rw [e4];simp only [Option.bind_some];cases h : (qn3 f.1 && qjA p f.1 && decide (0<=f.2.2.1/\f.2.2.1<=f.2.1.length/\(f.2.1.length : Int)<=r)) with
   | true =>
    left;have h' := h;simp only [Bool.and_eq_true, decide_eq_true_eq] at h';obtain ⟨⟨h1, h2⟩, h3, h4, h5⟩ := h'
    have e5 : ((((!(qn3 f.1 && qjA p f.1)) || (decide (f.2.2.1 < 0))) || (decide (f.2.2.1 > (f.2.1.length : Int)))) || (decide ((f.2.1.length : Int) > r))) = false := by
     rw [h1, h2];simp;omega
    refine ⟨(some f.1, r - f.2.1.length), ?_, ⟨hpi.symm, by simp only; omega, by simp only; omega⟩, ?_⟩
    ·rw [e5, cond_false, qb8 (n := i) (by omega), qa4 (by omega) (by omega)]
    ·conv => lhs; unfold qpM
     rw [if_pos h]
   | false =>
    right
    have e5 : ((((!(qn3 f.1 && qjA p f.1)) || (decide (f.2.2.1 < 0))) || (decide (f.2.2.1 > (f.2.1.length : Int)))) || (decide ((f.2.1.length : Int) > r))) = true := by
     cases h1 : (qn3 f.1 && qjA p f.1) with
     | false => simp
     | true =>
      rw [h1, Bool.true_and] at h;have := of_decide_eq_false h;simp;omega
    rw [e5, cond_true];unfold qpM;rw [if_neg (by simp only; rw [h]; simp)];rfl
 ·have e : ((((decide (room < 0)) || (decide (room > 65536))) || (decide (fuse < (-1)))) || (decide ((l.length : Int) > 64))) = true := by simp; omega
  rw [e, cond_true, decide_eq_false c, Bool.false_and]
structure RightD (d : qa3) : Prop where
 room0 : 0<=d.2.1
 room1 : d.2.1<=65536
 fuse : -1<=d.2.2.1
 len : d.1.length<=64
 srt : Srt d.1
 names : ∀ f ∈ d.1, qn3 f.1 = true
 sure : ∀ f ∈ d.1, 0<=f.2.2.1/\f.2.2.1<=f.2.1.length
 used : (qh7 d.1 : Int)<=d.2.1
theorem qrL : ∀ (l : List qb1) (p : Option ByteArray) (r : Int), 0<=r->(okL p r l = true ↔ (∀ f ∈ l, ∀ q, p = some q->ltS q f.1 = true)/\Srt l/\(∀ f ∈ l, qn3 f.1 = true)/\(∀ f ∈ l, 0<=f.2.2.1/\f.2.2.1<=f.2.1.length)/\(qh7 l : Int)<=r)
 | [], p, r, h0 => by simp [okL, Srt, qh7, h0]
 | f :: l, p, r, h0 => by
  have hu : qh7 (f :: l) = f.2.1.length + qh7 l := rfl;constructor
  ·intro h
   simp only [okL, Bool.and_eq_true, decide_eq_true_eq] at h;obtain ⟨⟨⟨h1, h2⟩, h3, h4, h5⟩, h6⟩ := h;obtain ⟨g1, g2, g3, g4, g5⟩ := (qrL l (some f.1) (r - f.2.1.length) (by omega)).1 h6
   have hp : ∀ q, p = some q->ltS q f.1 = true := by
    intro q hq;subst hq;exact h2
   refine ⟨fun g hg q hq => ?_, List.pairwise_cons.2 ⟨fun g hg => g1 g hg _ rfl, g2⟩, fun g hg => ?_, fun g hg => ?_, by rw [hu]; omega⟩
   ·rcases List.mem_cons.1 hg with rfl | hg
    ·exact hp q hq
    ·exact qgD (hp q hq) (g1 g hg _ rfl)
   ·rcases List.mem_cons.1 hg with rfl | hg
    ·exact h1
    ·exact g3 g hg
   ·rcases List.mem_cons.1 hg with rfl | hg
    ·exact ⟨h3, h4⟩
    ·exact g4 g hg
  ·rintro ⟨g1, g2, g3, g4, g5⟩
   rw [hu] at g5;have h1 := g3 f List.mem_cons_self
   have h2 : qjA p f.1 = true := by
    cases p with
    | none => rfl
    | some q => exact g1 f List.mem_cons_self q rfl
   have h3 := g4 f List.mem_cons_self;have h6 := (qrL l (some f.1) (r - f.2.1.length) (by omega)).2 ⟨fun g hg q hq => by cases hq; exact g2.head g hg, g2.tail, fun g hg => g3 g (List.mem_cons_of_mem _ hg), fun g hg => g4 g (List.mem_cons_of_mem _ hg), by omega⟩;simp only [okL, Bool.and_eq_true, decide_eq_true_eq];exact ⟨⟨⟨h1, h2⟩, h3.1, h3.2, by omega⟩, h6⟩
theorem qi4 (d : qa3) : qq1 d = true ↔ RightD d := by
 unfold qq1;rw [Bool.and_eq_true, decide_eq_true_eq];constructor
 ·rintro ⟨⟨h1, h2, h3, h4⟩, h⟩
  obtain ⟨_, g2, g3, g4, g5⟩ := (qrL _ _ _ h1).1 h;exact ⟨h1, h2, h3, h4, g2, g3, g4, g5⟩
 ·intro h
  exact ⟨⟨h.room0, h.room1, h.fuse, h.len⟩, (qrL _ _ _ h.room0).2 ⟨(fun _ _ q hq => by cases hq), h.srt, h.names, h.sure, h.used⟩⟩
theorem RightD.size {d : qa3} (h : RightD d) {f : qb1} (hf : f ∈ d.1) : f.2.1.length<=65536 := by
 have := zw1 hf;have h1 := h.used;have h2 := h.room1;omega
theorem zi8 {s : ByteArray} (h : qn3 s = true) : s.size<=16 := by
 unfold qn3 at h;rw [Bool.and_eq_true, decide_eq_true_eq] at h;exact h.2.2
theorem RightD.namesOk {d : qa3} (h : RightD d) : qv1 d.1 := fun f hf => Nat.le_trans (zi8 (h.names f hf)) (by unfold maxLen; omega)
theorem zw3 (d : qa3) (h : qh7 d.1 < 9223372036854775808) (hl : d.1.length<=maxLen) : qaV (d, ()) = some (qh7 d.1 : Int) := by
 unfold qaV;have hm : maxLen = 9223372036854775807 := rfl;rw [qf4 d.1 (fun i (b : Nat) => ((b : Int), ((i : Int), ()))) (fun l b => (((b + qh7 l : Nat) : Int), ())) (fun i b => b + qh7 (d.1.drop i) < 9223372036854775808) (b := 0) ?_ ?_ (by simpa using h) (by rfl)]
 ·simp
 ·intro b _
  simp only [qxW, cond_false];rfl
 ·intro i b hi hb
  left;rw [qp7 hi] at hb ⊢;simp only [ltI hi, cond_true, qj1 hi, Option.bind_some];generalize d.1[i] = f at hb;simp only [qh7] at hb ⊢;refine ⟨b + f.2.1.length, ?_, by omega, by rw [Nat.add_assoc]⟩;rw [qa4 (by omega) (by omega), qb8 (n := i) (by omega)];rfl
theorem qxX {n : Int} (h0 : 0<=n) (h1 : n < 18446744073709551616) : IntKind.u64.wrap n = n := by
 rw [IntKind.wrap_u64]; omega
theorem half_eq {lo hi : Nat} (h : lo + hi < 9223372036854775808) : IntKind.wrap .i64 (Int.fdiv (IntKind.wrap .u64 (IntKind.wrap .i64 ((lo : Int) + (hi : Int)))) (2 ^ 1)) = (((lo + hi) / 2 : Nat) : Int) := by
 rw [qa4 (n := (lo : Int) + hi) (by omega) (by omega), qxX (by omega) (by omega)]
 have : Int.fdiv ((lo : Int) + (hi : Int)) (2 ^ 1) = (((lo + hi) / 2 : Nat) : Int) := by
  rw [Int.fdiv_eq_ediv_of_nonneg _ (by omega)]
  norm_cast
 rw [this, qa4 (by omega) (by omega)]
theorem qmN (a b : ByteArray) : qi2 (a, (b, ())) = some (zu3 a b) := rfl
theorem cmpX_neg (a b : ByteArray) : decide (zu3 a b < 0) = ltS a b := by
 rw [zv7];cases h : ltS a b with
 | true => rw [if_pos rfl]; rfl
 | false =>
  rw [if_neg (by simp)];by_cases e : a = b
  ·rw [if_pos e]; rfl
  ·rw [if_neg e]; rfl
theorem zw4 (a b : ByteArray) : (zu3 a b == 0) = decide (a = b) := by
 rw [zv7];by_cases e : a = b
 ·subst e
  rw [qo9, if_neg (by simp), if_pos rfl];simp
 ·cases h : ltS a b with
  | true => rw [if_pos rfl, decide_eq_false e]; rfl
  | false => rw [if_neg (by simp), if_neg e, decide_eq_false e]; rfl
theorem qcC (d : qa3) (n : ByteArray) (hs : Srt d.1) (hl : d.1.length<=100) : ql2 (d, (n, ())) = some ((qd7 d.1 n : Int), ((qh8 d.1 n).isSome, ())) := by
 obtain ⟨l, t⟩ := d;simp only at hs hl;unfold ql2;simp only;have hr := zc3 l n
 let step := fun v1 : Int × (Int × Unit) =>
   bif (decide (v1.1 < v1.2.1)) then ((qj3 l (IntKind.wrap .i64 (Int.fdiv (IntKind.wrap .u64 (IntKind.wrap .i64 (v1.1 + v1.2.1))) (2 ^ 1))))).bind (fun (v2 : qb1) =>
    ((qi2 (v2.1, (n, ())))).bind (fun (v3 : Int) =>
    (
     bif (decide (v3 < 0)) then some ((IntKind.wrap .i64 ((IntKind.wrap .i64 (Int.fdiv (IntKind.wrap .u64 (IntKind.wrap .i64 (v1.1 + v1.2.1))) (2 ^ 1))) + 1)), v1.2)
     else some (v1.1, ((IntKind.wrap .i64 (Int.fdiv (IntKind.wrap .u64 (IntKind.wrap .i64 (v1.1 + v1.2.1))) (2 ^ 1))), ()))).bind (fun (v4 : Int × (Int × Unit)) =>
     some (Sum.inl v4))))
   else (some (v1.1, ())).map Sum.inr
 have hstep : ∀ x : Nat × Nat, (x.1<=qd7 l n/\qd7 l n<=x.2/\x.2<=l.length)->(∃ y : Nat × Nat, step (((x.1 : Int), ((x.2 : Int), ()))) = some (.inl (((y.1 : Int), ((y.2 : Int), ()))))/\(y.1<=qd7 l n/\qd7 l n<=y.2/\y.2<=l.length)/\y.2 - y.1 < x.2 - x.1)\/∃ o : Int × Unit, step (((x.1 : Int), ((x.2 : Int), ()))) = some (.inr o)/\o = ((qd7 l n : Int), ()) := by
  rintro ⟨lo, hi⟩ ⟨g1, g2, g3⟩;simp only [step] at g1 g2 g3 ⊢;by_cases c : lo < hi
  ·left
   rw [ltI c, cond_true, half_eq (by omega)];have hm : (lo + hi) / 2 < l.length := by omega
   rw [qj1 hm, Option.bind_some, qmN, Option.bind_some, cmpX_neg];cases hq : ltS (l[(lo + hi) / 2]).1 n with
   | true =>
    have hge : (lo + hi) / 2 < qd7 l n := by
     apply Classical.byContradiction
     intro hc;rw [rankF_ge hs (by omega) hm] at hq;cases hq
    refine ⟨((lo + hi) / 2 + 1, hi), ?_, ⟨by simp only; omega, g2, g3⟩, by simp only; omega⟩;rw [cond_true, qb8 (by omega)];rfl
   | false =>
    have hle : qd7 l n<=(lo + hi) / 2 := by
     apply Classical.byContradiction
     intro hc;rw [rankF_lt (by omega) hm] at hq;cases hq
    refine ⟨(lo, (lo + hi) / 2), ?_, ⟨g1, hle, by simp only; omega⟩, by simp only; omega⟩;rw [cond_false];rfl
  ·right
   rw [decide_eq_false (by omega), cond_false];have : lo = qd7 l n := by omega
   exact ⟨_, rfl, by rw [this]⟩
 obtain ⟨o, h1, h2⟩ := quY (step := step) (fun x : Nat × Nat => ((x.1 : Int), ((x.2 : Int), ()))) (fun x => x.1<=qd7 l n/\qd7 l n<=x.2/\x.2<=l.length) (fun o : Int × Unit => o = ((qd7 l n : Int), ())) (fun x => x.2 - x.1) hstep (x := (0, l.length)) ⟨Nat.zero_le _, hr, Nat.le_refl _⟩;have h1' := h1;simp only [Int.natCast_zero, step] at h1';rw [show (qb9 _ ((0 : Int), ((l.length : Int), ()))) = some o from h1', h2];simp only [Option.bind_some, qmN, zw4];rw [qvA hs];by_cases hlt : qd7 l n < l.length
 ·rw [ltI hlt, cond_true, qj1 hlt, Option.bind_some, List.getElem?_eq_getElem hlt]
  simp only;by_cases e : (l[qd7 l n]).1 = n
  ·rw [if_pos e, decide_eq_true e]; rfl
  ·rw [if_neg e, decide_eq_false e]; rfl
 ·rw [decide_eq_false (by omega), cond_false, List.getElem?_eq_none (by omega)]
  rfl
open IntKind
def qgF (d : qa3) (ns : List ByteArray) : Int := bif !(qq1 d) then 1 else bif d.2.2.2.1 then 9 else bif !(ns.all qn3) then 1 else 0
def downD (d : qa3) : qa3 := (d.1, (d.2.1, (d.2.2.1, (true, ()))))
def qn4 (d : qa3) : qa3 := (d.1, (d.2.1, ((if d.2.2.1 = -1 then -1 else d.2.2.1 - 1), d.2.2.2)))
def goD (a b : qa3) : qa3 × (Int × Unit) := if a.2.2.1 = 0 then (downD a, (9, ())) else (qn4 b, (0, ()))
def fileOf (l : List qb1) (n : ByteArray) : qb1 := (qh8 l n).getD (n, ([], (0, ())))
def qrM (d : qa3) (n : ByteArray) (b : List Int) : qa3 × (Int × Unit) :=
 if qgF d [n] ≠ 0 then (d, (qgF d [n], ()))
 else if d.2.1 < qh7 d.1 + b.length\/(qh8 d.1 n = none/\d.1.length = 64) then (d, (6, ()))
 else goD (qk5 d.1 (n, ((fileOf d.1 n).2.1 ++ b, (fileOf d.1 n).2.2)), d.2) (qk5 d.1 (n, ((fileOf d.1 n).2.1 ++ b, (fileOf d.1 n).2.2)), d.2)
def onD (d : qa3) (ns : List ByteArray) (n : ByteArray) (k : qb1->qa3 × (Int × Unit)) : qa3 × (Int × Unit) :=
 if qgF d ns ≠ 0 then (d, (qgF d ns, ())) else match qh8 d.1 n with
 | none => (d, (7, ()))
 | some f => k f
def qrN (d : qa3) (n : ByteArray) : qa3 × (Int × Unit) := onD d [n] n fun f => goD d (qk5 d.1 (f.1, (f.2.1, ((f.2.1.length : Int), ()))), d.2)
def remD (d : qa3) (n : ByteArray) : qa3 × (Int × Unit) := onD d [n] n fun _ => goD d (qiM d.1 n, d.2)
def zi9 (f : qb1) (k : Int) : qb1 := (f.1, (f.2.1.take k.toNat, ((if k < f.2.2.1 then k else f.2.2.1), ())))
def cutD (d : qa3) (n : ByteArray) (k : Int) : qa3 × (Int × Unit) := onD d [n] n fun f => if k < 0\/(f.2.1.length : Int) < k then (d, (1, ())) else goD d (qk5 d.1 (zi9 f k), d.2)
def qmO (d : qa3) (n : ByteArray) : List Int × (Int × Unit) := if qgF d [n] ≠ 0 then ([], (qgF d [n], ())) else match qh8 d.1 n with
 | none => ([], (7, ()))
 | some f => (f.2.1, (0, ()))
def zaL (f : qb1) (k : Int) : Int := f.2.2.1 + min (max k 0) (f.2.1.length - f.2.2.1)
def zaM (f : qb1) (k : Int) : qb1 := (f.1, (f.2.1.take (zaL f k).toNat, (zaL f k, ())))
def zaN (keep : List Int) (i : Nat) : Int := if h : keep.length = 0 then 0 else keep[i % keep.length]'(Nat.mod_lt _ (by omega))
def zaI (keep : List Int) : Nat->List qb1->List qb1
 | _, [] => []
 | i, f :: l => zaM f (zaN keep i) :: zaI keep (i + 1) l
def backD (d : qa3) (keep : List Int) (fuse : Int) : qa3 × (Int × Unit) :=
 if qq1 d = false\/fuse < -1 then (d, (1, ())) else ((zaI keep 0 d.1, (d.2.1, (fuse, (false, ())))), (0, ()))
theorem qq5 {d : qa3} {ns : List ByteArray} (h : qgF d ns = 0) : RightD d := by
 unfold qgF at h;cases hr : qq1 d with
 | true => exact (qi4 d).1 hr
 | false => rw [hr] at h; simp at h
theorem zw5 {d : qa3} {ns : List ByteArray} (h : qgF d ns = 0) : RightD d/\d.2.2.2.1 = false/\∀ n ∈ ns, qn3 n = true := by
 refine ⟨qq5 h, ?_⟩;unfold qgF at h;rw [(qi4 d).2 (qq5 h)] at h;cases hd : d.2.2.2.1 with
 | true => rw [hd] at h; simp at h
 | false =>
  rw [hd] at h;cases ha : ns.all qn3 with
  | false => rw [ha] at h; simp at h
  | true => exact ⟨rfl, List.all_eq_true.1 ha⟩
theorem qmP {d : qa3} (h : RightD d) (h1 : d.2.2.2.1 = false) {ns : List ByteArray} (h2 : ∀ n ∈ ns, qn3 n = true) : qgF d ns = 0 := by
 unfold qgF;rw [(qi4 d).2 h, h1, List.all_eq_true.2 h2];rfl
theorem zc5 (l : List Int) (h : l.length<=100000000000) : ql1 (l, ()) = some l := by
 unfold ql1;rw [ql7 (by simp; omega) (by simp [maxLen]; omega)];rfl
def qpO : List ByteArray->Unit->Unit ⊕ Int
 | [], _ => .inl ()
 | n :: l, u => if qn3 n = true then qpO l u else .inr 1
theorem qpP : ∀ l : List ByteArray, eX (fun _ => some 0) (qpO l ()) = some (bif !(l.all qn3) then 1 else 0)
 | [] => rfl
 | n :: l => by
  unfold qpO;cases h : qn3 n with
  | true => simp only [if_true, qpP l, List.all_cons, h, Bool.true_and]
  | false => simp [eX, List.all_cons, h]
theorem qz0 (d : qa3) (ns : List ByteArray) (hd : qv1 d.1) (hn : ∀ n ∈ ns, n.size<=maxLen) (hl : ns.length<=1000) : qi7 (d, (ns, ())) = some (qgF d ns) := by
 unfold qi7 qgF;rw [qcZ d hd, Option.bind_some];cases qq1 d with
 | false => rfl
 | true =>
  simp only [Bool.not_true, cond_false];cases d.2.2.2.1 with
  | true => rfl
  | false =>
   simp only [cond_false];rw [qf4 ns (fun i (b : Unit) => ((i : Int), ())) qpO (fun _ _ => True) (b := ()) ?_ ?_ trivial (by rfl)]
   ·rw [Option.bind_some, qpP]
   ·intro b _
    simp only [qxW, cond_false];rfl
   ·intro i b hi _
    simp only [ltI hi, cond_true, qj1 hi, Option.bind_some];rw [qpL _ (hn _ (List.getElem_mem hi)), qp7 hi];generalize ns[i] = n;cases h : qn3 n with
    | true =>
     left;refine ⟨(), ?_, trivial, ?_⟩
     ·simp only [Option.bind_some, Bool.not_true, cond_false]
      rw [qb8 (n := i) (by omega)]
     ·conv => lhs; unfold qpO
      rw [if_pos h]
    | false =>
     right;simp only [Option.bind_some, Bool.not_false, cond_true];rw [decide_eq_true (show (i : Int) ≥ 0 by omega)];unfold qpO;rw [h];rfl
theorem zw6 (x y : List Int) (h : x.length + y.length<=1000000000) : ql3 ((x :: (y :: [])), ()) = some (x ++ y) := by
 unfold ql3
 have s1 : ∀ (a b : Int), 0<=a->0<=b->a + b<=1000000000->(bif (decide ((IntKind.wrap .i64 (a + b)) < 0)) then (none : Option Unit) else some ()) = some () := by
  intro a b h1 h2 h3;rw [qa4 (by omega) (by omega), decide_eq_false (by omega)];rfl
 rw [qh1 (t' := ((x.length : Int), ((1 : Int), ()))) (by
  simp only [List.length_cons, List.length_nil];rw [show qj3 (x :: y :: []) 0 = some x from rfl];simp only [Option.bind_some];rw [s1 0 _ (by omega) (by omega) (by omega), qa4 (n := 0 + (x.length : Int)) (by omega) (by omega)];simp [IntKind.wrap_i64])]
 rw [qh1 (t' := (((x.length + y.length : Nat) : Int), ((2 : Int), ()))) (by
  simp only [List.length_cons, List.length_nil];rw [show qj3 (x :: y :: []) 1 = some y from rfl];simp only [Option.bind_some];rw [s1 _ _ (by omega) (by omega) (by omega), qa4 (n := (x.length : Int) + (y.length : Int)) (by omega) (by omega)];simp [IntKind.wrap_i64])]
 rw [qg2 (e := (((x.length + y.length : Nat) : Int), ())) (by simp)];simp only [Option.bind_some]
 have hg : growX ((x.length + y.length : Nat) : Int) 1 = true := by
  unfold growX;refine decide_eq_true ⟨by omega, by omega, by simp [maxLen]; omega⟩
 rw [hg, cond_true]
 rw [qh1 (t' := (x, ((1 : Int), ()))) (by
  simp only [List.length_cons, List.length_nil];rw [show qj3 (x :: y :: []) 0 = some x from rfl];simp only [Option.bind_some];rw [ql7 (by simp; omega) (by simp [maxLen]; omega)];simp [IntKind.wrap_i64])]
 rw [qh1 (t' := (x ++ y, ((2 : Int), ()))) (by
  simp only [List.length_cons, List.length_nil];rw [show qj3 (x :: y :: []) 1 = some y from rfl];simp only [Option.bind_some];rw [ql7 (by omega) (by simp [maxLen]; omega)];simp [IntKind.wrap_i64])]
 rw [qg2 (e := (x ++ y, ())) (by simp)];rfl
theorem qxY {i n : Nat} (h : i < n) : inI (i : Int) n = true := by
 unfold inI;exact decide_eq_true ⟨by omega, by omega⟩
theorem put_at (l : List qb1) (n : Nat) (x y : qb1) (h : n<=l.length) : (l.take n ++ x :: l.drop n).set n y = l.take n ++ y :: l.drop n := by
 rw [List.set_append_right _ _ (by rw [List.length_take]; omega)];rw [List.length_take, Nat.min_eq_left h, Nat.sub_self];rfl
theorem get_at (l : List qb1) (n : Nat) (x : qb1) (h : n<=l.length) : (l.take n ++ x :: l.drop n)[n]? = some x := by
 rw [List.getElem?_append_right (by rw [List.length_take]; omega)];rw [List.length_take, Nat.min_eq_left h, Nat.sub_self];rfl
open IntKind
theorem zc6 {a b : qa3} (h : a.2.2.1 = 0) : goD a b = (downD a, (9, ())) := by unfold goD; rw [if_pos h]
theorem qgG {l : List qb1} (h : l.length<=1000) : qn7 [] l 48 = some l := by
 rw [ql7 (by simp; omega) (by simp [maxLen]; omega)];rfl
section
variable {d : qa3} {n : ByteArray} (hd : qv1 d.1) (hn : n.size<=maxLen) (hw : d.2.2.1 < 9223372036854775808)
include hd hn hw
theorem qxZ (b : List Int) (hb : b.length<=100000) : qp5 (d, (n, (b, ()))) = some (qrM d n b) := by
 unfold qp5 qrM;rw [qz0 d [n] hd (by simpa using hn) (by simp), Option.bind_some];by_cases he : qgF d [n] = 0
 rotate_left
 ·have e : (qgF d [n] != 0) = true := by simpa using he
  rw [e, cond_true, if_pos he]
 have hR := qq5 he;have h64 := hR.len;have hu := hR.used;have hr1 := hR.room1;have hr0 := hR.room0;rw [he, if_neg (by simp)];rw [show ((0 : Int) != 0) = false from rfl, cond_false, qcC d n hR.srt (by omega), Option.bind_some];rw [zw3 d (by omega) (by unfold maxLen; omega), Option.bind_some];dsimp only;rw [qa4 (by omega) (by omega)]
 have e1 : ((decide ((b.length : Int) > d.2.1 - (qh7 d.1 : Int))) || ((!(qh8 d.1 n).isSome) && ((d.1.length : Int) == 64))) = decide (d.2.1 < qh7 d.1 + b.length\/(qh8 d.1 n = none/\d.1.length = 64)) := by
  rw [Bool.decide_or, Bool.decide_and]
  congr 1
  ·apply decide_eq_decide.2; omega
  ·congr 1
   ·cases qh8 d.1 n <;> rfl
   ·rw [Bool.eq_iff_iff]; simp; omega
 rw [e1];by_cases c : d.2.1 < qh7 d.1 + b.length\/(qh8 d.1 n = none/\d.1.length = 64)
 ·rw [decide_eq_true c, cond_true, if_pos c]
 rw [decide_eq_false c, cond_false, if_neg c, qgG (by omega), Option.bind_some];have hle := zc3 d.1 n
 have key : ∀ (l2 : List qb1) (g : qb1), l2[qd7 d.1 n]? = some g->g.2.1.length<=65536->l2.set (qd7 d.1 n) (g.1, (g.2.1 ++ b, g.2.2)) = qk5 d.1 (n, ((fileOf d.1 n).2.1 ++ b, (fileOf d.1 n).2.2)) →
   (bif (inI (qd7 d.1 n : Int) l2.length) then (l2[(Int.toNat (qd7 d.1 n : Int))]?).bind (fun (v7 : qb1) =>
    ((ql3 ((v7.2.1 :: (b :: [])), ()))).bind (fun (v8 : (List Int)) =>
    bif (inI (qd7 d.1 n : Int) l2.length) then (l2[(Int.toNat (qd7 d.1 n : Int))]?).bind (fun (v9 : qb1) =>
     bif (d.2.2.1 == 0) then some (((List.set l2 (Int.toNat (qd7 d.1 n : Int)) (v9.1, (v8, v9.2.2))), (d.2.1, (d.2.2.1, (true, ())))), (9, ()))
     else bif (d.2.2.1 == (-1)) then some (((List.set l2 (Int.toNat (qd7 d.1 n : Int)) (v9.1, (v8, v9.2.2))), d.2), ((0 : Int), ()))
     else some (((List.set l2 (Int.toNat (qd7 d.1 n : Int)) (v9.1, (v8, v9.2.2))), (d.2.1, ((IntKind.wrap .i64 (d.2.2.1 - 1)), d.2.2.2))), (0, ())))
    else none))
   else none) = some (goD (qk5 d.1 (n, ((fileOf d.1 n).2.1 ++ b, (fileOf d.1 n).2.2)), d.2) (qk5 d.1 (n, ((fileOf d.1 n).2.1 ++ b, (fileOf d.1 n).2.2)), d.2)) := by
  intro l2 g hg hlen qeH;have hlt : qd7 d.1 n < l2.length := (List.getElem?_eq_some_iff.1 hg).1;rw [qxY hlt, cond_true, Int.toNat_natCast, hg, Option.bind_some, zw6 _ _ (by omega)];simp only [Option.bind_some, qeH];have hf := hR.fuse;by_cases c0 : d.2.2.1 = 0
  ·have e : (d.2.2.1 == 0) = true := by simpa using c0
   rw [e, cond_true];unfold goD;rw [if_pos c0];rfl
  ·have e : (d.2.2.1 == 0) = false := by simpa using c0
   rw [e, cond_false];by_cases c1 : d.2.2.1 = -1
   ·have e : (d.2.2.1 == (-1)) = true := by simpa using c1
    rw [e, cond_true];unfold goD qn4;rw [if_neg c0, if_pos c1, ← c1];rfl
   ·have e : (d.2.2.1 == (-1)) = false := by simpa using c1
    rw [e, cond_false, qa4 (by omega) (by omega)];unfold goD qn4;rw [if_neg c0, if_neg c1];rfl
 cases hg : qh8 d.1 n with
 | none =>
  have hlen : d.1.length ≠ 64 := fun h => c (.inr ⟨hg, h⟩)
  rw [show (!(none : Option qb1).isSome) = true from rfl, cond_true]
  have hins : insX d.1 ((qd7 d.1 n : Nat) : Int) ((n, ([], (0, ()))) :: []) 48 = some (d.1.take (qd7 d.1 n) ++ (n, (([] : List Int), ((0 : Int), ()))) :: d.1.drop (qd7 d.1 n)) := by
   unfold insX;rw [if_pos ⟨by simp, by omega, by omega, by simp; omega, by simp [maxLen]; omega⟩, Int.toNat_natCast];simp
  rw [hins, Option.bind_some, Option.bind_some];refine key _ (n, ([], (0, ()))) (get_at _ _ _ hle) (by simp) ?_
  rw [put_at _ _ _ _ hle];have : fileOf d.1 n = (n, ([], (0, ()))) := by unfold fileOf; rw [hg]; rfl
  rw [this];rw [putF_new (f := (n, (([] : List Int) ++ b, ((0 : Int), ())))) hg]
 | some g =>
  rw [show (!(some g).isSome) = false from rfl, cond_false, Option.bind_some];refine key _ g (qhL hR.srt hg) (hR.size (qi0 hg)) ?_
  have : fileOf d.1 n = g := by unfold fileOf; rw [hg]; rfl
  rw [this];rw [qrK hR.srt (f := (n, (g.2.1 ++ b, g.2.2))) hg, qh5 hg]
theorem zw7 : qv0 (d, (n, ())) = some (qrN d n) := by
 unfold qv0 qrN onD;rw [show qn7 [] (n :: []) 16 = some [n] by rw [ql7 (by simp) (by simp [maxLen])]; rfl, Option.bind_some];rw [qz0 d [n] hd (by simpa using hn) (by simp), Option.bind_some];by_cases he : qgF d [n] = 0
 rotate_left
 ·have e : (qgF d [n] != 0) = true := by simpa using he
  rw [e, cond_true, if_pos he];rfl
 have hR := qq5 he;have h64 := hR.len;have hf := hR.fuse;rw [he, if_neg (by simp)];rw [show ((0 : Int) != 0) = false from rfl, cond_false, qcC d n hR.srt (by omega), Option.bind_some];cases hg : qh8 d.1 n with
 | none => rfl
 | some f =>
  have hat := qhL hR.srt hg;have hlt : qd7 d.1 n < d.1.length := (List.getElem?_eq_some_iff.1 hat).1
  have hput : d.1.set (qd7 d.1 n) (f.1, (f.2.1, ((f.2.1.length : Int), ()))) = qk5 d.1 (f.1, (f.2.1, ((f.2.1.length : Int), ()))) := by
   rw [qrK hR.srt (f := (f.1, (f.2.1, ((f.2.1.length : Int), ())))) (g := f) (by rw [qh5 hg]; exact hg), qh5 hg]
  simp only [Option.isSome_some, Bool.not_true, cond_false];simp only [qgG (l := d.1) (by omega), Option.bind_some, qxY hlt, cond_true, Int.toNat_natCast, hat, hput];by_cases c0 : d.2.2.1 = 0
  ·have e : (d.2.2.1 == 0) = true := by simpa using c0
   rw [e, cond_true];unfold goD;rw [if_pos c0];rfl
  ·have e : (d.2.2.1 == 0) = false := by simpa using c0
   rw [e, cond_false];by_cases c1 : d.2.2.1 = -1
   ·have e : (d.2.2.1 == (-1)) = true := by simpa using c1
    rw [e, cond_true];unfold goD qn4;rw [if_neg c0, if_pos c1, ← c1]
   ·have e : (d.2.2.1 == (-1)) = false := by simpa using c1
    rw [e, cond_false, qa4 (by omega) (by omega)];unfold goD qn4;rw [if_neg c0, if_neg c1]
omit hw in
theorem zw8 : qaW (d, (n, ())) = some (qmO d n) := by
 unfold qaW qmO;rw [show qn7 [] (n :: []) 16 = some [n] by rw [ql7 (by simp) (by simp [maxLen])]; rfl, Option.bind_some];rw [qz0 d [n] hd (by simpa using hn) (by simp), Option.bind_some];by_cases he : qgF d [n] = 0
 rotate_left
 ·have e : (qgF d [n] != 0) = true := by simpa using he
  rw [e, cond_true, if_pos he];rfl
 have hR := qq5 he;have h64 := hR.len;rw [he, if_neg (by simp)];rw [show ((0 : Int) != 0) = false from rfl, cond_false, qcC d n hR.srt (by omega), Option.bind_some];cases hg : qh8 d.1 n with
 | none => rfl
 | some f =>
  have hat := qhL hR.srt hg;have hsz := hR.size (qi0 hg);simp only [Option.isSome_some, Bool.not_true, cond_false];rw [qgC, hat, Option.bind_some, zc5 _ (by omega)];rfl
theorem delX_at {l : List qb1} (h : qd7 l n < l.length) (hl : l.length<=1000) : delX l (qd7 l n : Int) (IntKind.wrap .i64 ((qd7 l n : Int) + 1)) = some (l.take (qd7 l n) ++ l.drop (qd7 l n + 1)) := by
 have _ := hd;have _ := hn;have _ := hw;rw [qb8 (by omega)];unfold delX;rw [if_pos ⟨by omega, by omega, by omega, by unfold maxLen; omega⟩, Int.toNat_natCast, Int.toNat_natCast]
theorem qyA : qg4 (d, (n, ())) = some (remD d n) := by
 unfold qg4 remD onD;rw [show qn7 [] (n :: []) 16 = some [n] by rw [ql7 (by simp) (by simp [maxLen])]; rfl, Option.bind_some];rw [qz0 d [n] hd (by simpa using hn) (by simp), Option.bind_some];by_cases he : qgF d [n] = 0
 rotate_left
 ·have e : (qgF d [n] != 0) = true := by simpa using he
  rw [e, cond_true, if_pos he];rfl
 have hR := qq5 he;have h64 := hR.len;have hf := hR.fuse;rw [he, if_neg (by simp)];rw [show ((0 : Int) != 0) = false from rfl, cond_false, qcC d n hR.srt (by omega), Option.bind_some];cases hg : qh8 d.1 n with
 | none => rfl
 | some f =>
  have hat := qhL hR.srt hg;have hlt : qd7 d.1 n < d.1.length := (List.getElem?_eq_some_iff.1 hat).1;simp only [Option.isSome_some, Bool.not_true, cond_false];simp only [qgG (l := d.1) (by omega), Option.bind_some, delX_at hd hn hw hlt (by omega), ← delF_at hR.srt hg];by_cases c0 : d.2.2.1 = 0
  ·have e : (d.2.2.1 == 0) = true := by simpa using c0
   rw [e, cond_true];unfold goD;rw [if_pos c0];rfl
  ·have e : (d.2.2.1 == 0) = false := by simpa using c0
   rw [e, cond_false];by_cases c1 : d.2.2.1 = -1
   ·have e : (d.2.2.1 == (-1)) = true := by simpa using c1
    rw [e, cond_true];unfold goD qn4;rw [if_neg c0, if_pos c1, ← c1]
   ·have e : (d.2.2.1 == (-1)) = false := by simpa using c1
    rw [e, cond_false, qa4 (by omega) (by omega)];unfold goD qn4;rw [if_neg c0, if_neg c1]
end
open IntKind
theorem cut_at {l : List qb1} (hs : Srt l) (h64 : l.length<=64) {n : ByteArray} {f : qb1} (hg : qh8 l n = some f) (hsz : f.2.1.length<=65536) {k : Int} (h0 : 0<=k) (h1 : k<=f.2.1.length) (T : Int × (Int × (Bool × Unit))) :
  ((qn7 [] l 48)).bind (fun (v22 : (List qb1)) =>
   bif (inI (qd7 l n : Int) v22.length) then (v22[(Int.toNat (qd7 l n : Int))]?).bind (fun (v23 : qb1) =>
    ((qp0 v23.2.1 0 k)).bind (fun (v24 : (List Int)) =>
     ((ql1 (v24, ()))).bind (fun (v25 : (List Int)) =>
     (v22[(Int.toNat (qd7 l n : Int))]?).bind (fun (v26 : qb1) =>
      (v22[(Int.toNat (qd7 l n : Int))]?).bind (fun (v27 : qb1) =>
      ((List.set v22 (Int.toNat (qd7 l n : Int)) (v27.1, (v25, v27.2.2)))[(Int.toNat (qd7 l n : Int))]?).bind (fun (v28 : qb1) =>
       some (((List.set (List.set v22 (Int.toNat (qd7 l n : Int)) (v27.1, (v25, v27.2.2))) (Int.toNat (qd7 l n : Int)) (v28.1, (v28.2.1, ((if (false = true) then (if (k > v26.2.2.1) then k else v26.2.2.1) else (if (k < v26.2.2.1) then k else v26.2.2.1)), ())))), T), ((0 : Int), ()))))))))
   else none) = some ((qk5 l (zi9 f k), T), (0, ())) := by
 have hat := qhL hs hg;have hlt : qd7 l n < l.length := (List.getElem?_eq_some_iff.1 hat).1;rw [qgG (by omega), Option.bind_some, qxY hlt, cond_true, Int.toNat_natCast, hat, Option.bind_some]
 have e : qp0 f.2.1 0 k = some (f.2.1.take k.toNat) := by
  have := qt5 f.2.1 (a := 0) (b := k.toNat) (Nat.zero_le _) (by omega);rw [Int.toNat_of_nonneg h0] at this;simpa using this
 rw [e, Option.bind_some, zc5 _ (by rw [List.length_take]; omega)];simp only [Option.bind_some];rw [List.getElem?_set_self hlt];simp only [Option.bind_some, List.set_set, Bool.false_eq_true, if_false];unfold zi9;rw [qrK hs (g := f) (by simp only; rw [qh5 hg]; exact hg)];simp only [qh5 hg]
theorem disk_Cut {d : qa3} {n : ByteArray} (hd : qv1 d.1) (hn : n.size<=maxLen) (hw : d.2.2.1 < 9223372036854775808) (k : Int) : qu2 (d, (n, (k, ()))) = some (cutD d n k) := by
 unfold qu2 cutD onD;rw [show qn7 [] (n :: []) 16 = some [n] by rw [ql7 (by simp) (by simp [maxLen])]; rfl, Option.bind_some];rw [qz0 d [n] hd (by simpa using hn) (by simp), Option.bind_some];by_cases he : qgF d [n] = 0
 rotate_left
 ·have e : (qgF d [n] != 0) = true := by simpa using he
  rw [e, cond_true, if_pos he];rfl
 have hR := qq5 he;have h64 := hR.len;have hf := hR.fuse;rw [he, if_neg (by simp)];rw [show ((0 : Int) != 0) = false from rfl, cond_false, qcC d n hR.srt (by omega), Option.bind_some];cases hg : qh8 d.1 n with
 | none => rfl
 | some f =>
  have hat := qhL hR.srt hg;have hsz := hR.size (qi0 hg);simp only [Option.isSome_some, Bool.not_true, cond_false];rw [qgC, hat];simp only [Option.bind_some]
  have e1 : (bif (decide (k < 0)) then some ((decide (k < 0)), ()) else some ((decide (k > (f.2.1.length : Int))), ())) = some (decide (k < 0\/(f.2.1.length : Int) < k), ()) := by
   by_cases h : k < 0
   ·rw [decide_eq_true h, decide_eq_true (.inl h : k < 0\/(f.2.1.length : Int) < k)]; rfl
   ·rw [decide_eq_false h, cond_false]
    congr 2
    apply decide_eq_decide.2
    exact ⟨.inr, fun hh => hh.resolve_left h⟩
  rw [e1, Option.bind_some];by_cases c : k < 0\/(f.2.1.length : Int) < k
  ·rw [decide_eq_true c, if_pos c]
   rfl
  rw [if_neg c];simp only [decide_eq_false c, cond_false];by_cases c0 : d.2.2.1 = 0
  ·have e : (d.2.2.1 == 0) = true := by simpa using c0
   rw [e, cond_true];unfold goD;rw [if_pos c0];rfl
  ·have e : (d.2.2.1 == 0) = false := by simpa using c0
   rw [e, cond_false];by_cases c1 : d.2.2.1 = -1
   ·have e : (d.2.2.1 == (-1)) = true := by simpa using c1
    rw [e, cond_true];refine (cut_at hR.srt h64 hg hsz (k := k) (by omega) (by omega) d.2).trans ?_
    unfold goD qn4;rw [if_neg c0, if_pos c1, ← c1]
   ·have e : (d.2.2.1 == (-1)) = false := by simpa using c1
    rw [e, cond_false];refine (cut_at hR.srt h64 hg hsz (k := k) (by omega) (by omega) (d.2.1, ((IntKind.wrap .i64 (d.2.2.1 - 1)), d.2.2.2))).trans ?_
    rw [qa4 (by omega) (by omega)];unfold goD qn4;rw [if_neg c0, if_neg c1]
theorem keep_if (s l : Int) (k : Int) (h0 : 0<=s) (h1 : s<=l) : (if (false = true) then (if ((l - s)) > (if (true = true) then (if (0 > k) then 0 else k) else (if (0 < k) then 0 else k)) then (l - s) else (if (true = true) then (if (0 > k) then 0 else k) else (if (0 < k) then 0 else k))) else (if ((l - s) < (if (true = true) then (if (0 > k) then 0 else k) else (if (0 < k) then 0 else k))) then (l - s) else (if (true = true) then (if (0 > k) then 0 else k) else (if (0 < k) then 0 else k)))) = min (max k 0) (l - s) := by
 simp only [Bool.false_eq_true, if_false, if_true];rw [Int.min_def, Int.max_def];split <;> split <;> split <;> (try split) <;> omega
theorem zaT {f : qb1} (k : Int) (h0 : 0<=f.2.2.1) (h1 : f.2.2.1<=f.2.1.length) : f.2.2.1<=zaL f k/\zaL f k<=f.2.1.length := by
 unfold zaL;omega
theorem zbC (f : qb1) (k : Int) (h0 : 0<=f.2.2.1) (h1 : f.2.2.1<=f.2.1.length) (h2 : f.2.1.length<=65536) : qmH (f, (k, ())) = some (zaM f k) := by
 have hk := zaT k h0 h1;unfold qmH;dsimp only;rw [qa4 (n := (f.2.1.length : Int) - f.2.2.1) (by omega) (by omega), keep_if _ _ _ h0 h1];rw [show f.2.2.1 + min (max k 0) ((f.2.1.length : Int) - f.2.2.1) = zaL f k from rfl];rw [qa4 (n := zaL f k) (by omega) (by omega)]
 have e : qp0 f.2.1 0 (zaL f k) = some (f.2.1.take (zaL f k).toNat) := by
  have := qt5 f.2.1 (a := 0) (b := (zaL f k).toNat) (Nat.zero_le _) (by omega);rw [Int.toNat_of_nonneg (by omega)] at this;simpa using this
 rw [e, Option.bind_some, zc5 _ (by rw [List.length_take]; omega)];rfl
theorem zaK (keep : List Int) : ∀ (i : Nat) (l : List qb1), (zaI keep i l).length = l.length
 | _, [] => rfl
 | i, f :: l => by simp only [zaI, List.length_cons, zaK keep (i + 1) l]
theorem zaV (keep : List Int) : ∀ (l : List qb1) (j i : Nat), (zaI keep j l)[i]? = (l[i]?).map fun f => zaM f (zaN keep (j + i))
 | [], _, _ => by simp [zaI]
 | f :: l, j, 0 => by simp [zaI]
 | f :: l, j, i + 1 => by
  simp only [zaI, List.getElem?_cons_succ, zaV keep l (j + 1) i];rw [show j + 1 + i = j + (i + 1) by omega]
theorem zbB {ε : Type} (keep : List Int) (i : Nat) (hi : i < 9223372036854775807) (hk : keep.length < 9223372036854775807) (K : Int × Unit->Option ε) :
  ((bif (decide ((keep.length : Int) > 0)) then bif (decide ((keep.length : Int) = 0)) then none
     else ((qj3 keep (Int.tmod (i : Int) (keep.length : Int)))).bind (fun (v5 : Int) =>
     some (v5, ()))
    else some (0, ())) : Option (Int × Unit)).bind K = K (zaN keep i, ()) := by
 have _ := hi;have _ := hk;unfold zaN;by_cases h : keep.length = 0
 ·rw [decide_eq_false (by omega), cond_false, Option.bind_some, dif_pos h]
 ·rw [decide_eq_true (by omega), cond_true, decide_eq_false (by omega), cond_false, dif_neg h]
  have hm : i % keep.length < keep.length := Nat.mod_lt _ (by omega);have e : Int.tmod (i : Int) (keep.length : Int) = ((i % keep.length : Nat) : Int) := tmod_nat _ _;rw [e, qgC, List.getElem?_eq_getElem hm];rfl
theorem zbD {d : qa3} (hd : qv1 d.1) (keep : List Int) (hk : keep.length<=1000000) (fuse : Int) : qmI (d, (keep, (fuse, ()))) = some (backD d keep fuse) := by
 unfold qmI backD;rw [qcZ d hd, Option.bind_some];cases hr : qq1 d with
 | false => simp
 | true =>
  have hR := (qi4 d).1 hr;have h64 := hR.len;by_cases hf : fuse < -1
  ·rw [if_pos (.inr hf)]
   dsimp only;rw [decide_eq_true hf];rfl
  ·rw [if_neg (by simp [hf])]
   dsimp only;rw [decide_eq_false hf];simp only [Bool.not_true, Bool.or_false, cond_false];rw [qgG (by omega), Option.bind_some];rw [qf4 d.1 (fun i (b : List qb1) => ((i : Int), (b, d.2))) (fun _ _ => (zaI keep 0 d.1, d.2)) (fun i b => b = (zaI keep 0 d.1).take i ++ d.1.drop i) (b := d.1) ?_ ?_ (by simp) (by rfl)]
   ·rfl
   ·intro b hb
    subst hb;simp only [qxW, cond_false];rw [List.drop_length, List.append_nil, List.take_of_length_le (by rw [zaK]; omega)];rfl
   ·intro i b hi hb
    subst hb;left;have hA : i < (zaI keep 0 d.1).length := by rw [zaK]; exact hi
    have htk : ((zaI keep 0 d.1).take i).length = i := by rw [List.length_take]; omega
    have hmem : d.1[i] ∈ d.1 := List.getElem_mem hi
    have hget : ((zaI keep 0 d.1).take i ++ d.1.drop i)[i]? = some d.1[i] := by
     rw [List.getElem?_append_right (by omega), htk, Nat.sub_self, qp7 hi];rfl
    have hlt : i < ((zaI keep 0 d.1).take i ++ d.1.drop i).length := (List.getElem?_eq_some_iff.1 hget).1
    have hb2 : (zaI keep 0 d.1)[i] = zaM d.1[i] (zaN keep i) := by
     have := zaV keep d.1 0 i;rw [List.getElem?_eq_getElem hA, List.getElem?_eq_getElem hi] at this;simpa using this
    refine ⟨(zaI keep 0 d.1).take (i + 1) ++ d.1.drop (i + 1), ?_, rfl, rfl⟩;simp only [ltI hi, cond_true, qxY hlt, Int.toNat_natCast, hget, Option.bind_some];rw [zbB keep i (by omega) (by omega), zbC _ _ (hR.sure _ hmem).1 (hR.sure _ hmem).2 (hR.size hmem), Option.bind_some, qb8 (by omega)]
    congr 4
    rw [List.set_append_right _ _ (by omega), htk, Nat.sub_self, qp7 hi, List.set_cons_zero, ← hb2, List.take_succ_eq_append_getElem hA, List.append_assoc];rfl
section
variable {d : qa3} {n : ByteArray} (hd : qv1 d.1) (hn : n.size<=maxLen) (hw : d.2.2.1 < 9223372036854775808)
include hd hn
omit hd hn in
theorem rank_neg (n : Nat) : decide ((n : Int) < 0) = false := decide_eq_false (by omega)
include hw
end
theorem delF_len (l : List qb1) (n : ByteArray) : (qiM l n).length<=l.length := by
 induction l with
 | nil => simp [qiM]
 | cons x l ih =>
  simp only [qiM];split
  ·simp
  ·simp; omega
theorem zaO {keep : List Int} {g : qb1} : ∀ {l : List qb1} {i : Nat}, g ∈ zaI keep i l->∃ f ∈ l, ∃ k, g = zaM f k
 | f :: l, i, h => by
  simp only [zaI] at h;rcases List.mem_cons.1 h with rfl | h
  ·exact ⟨f, List.mem_cons_self, _, rfl⟩
  ·obtain ⟨f', h1, k, h2⟩ := zaO h
   exact ⟨f', List.mem_cons_of_mem _ h1, k, h2⟩
theorem zaW {keep : List Int} : ∀ {l : List qb1} {i : Nat}, Srt l->Srt (zaI keep i l)
 | [], _, _ => List.Pairwise.nil
 | f :: l, i, h => by
  simp only [zaI];refine List.pairwise_cons.2 ⟨fun g hg => ?_, zaW h.tail⟩;obtain ⟨f', h1, k, rfl⟩ := zaO hg;exact h.head f' h1
theorem zbE {f : qb1} (k : Int) (h0 : 0<=f.2.2.1) (h1 : f.2.2.1<=f.2.1.length) : ((zaM f k).2.1.length : Int) = zaL f k := by
 have := zaT k h0 h1;unfold zaM;simp only [List.length_take];omega
theorem zaR {keep : List Int} : ∀ {l : List qb1} {i : Nat}, qh7 (zaI keep i l)<=qh7 l
 | [], _ => Nat.le_refl _
 | f :: l, i => by
  simp only [zaI, qh7];have := zaR (keep := keep) (l := l) (i := i + 1)
  have h2 : (zaM f (zaN keep i)).2.1.length<=f.2.1.length := by
   unfold zaM;simp only [List.length_take];omega
  omega
theorem zaP {d : qa3} (h : RightD d) (keep : List Int) (fuse : Int) (hf : -1<=fuse) : RightD (zaI keep 0 d.1, (d.2.1, (fuse, (false, ())))) where
 room0 := h.room0
 room1 := h.room1
 fuse := hf
 len := by simp only [zaK]; exact h.len
 srt := zaW h.srt
 names := fun g hg => by
  obtain ⟨f, h1, k, rfl⟩ := zaO hg;exact h.names f h1
 sure := fun g hg => by
  obtain ⟨f, h1, k, rfl⟩ := zaO hg;have hs := h.sure f h1;have hk := zaT k hs.1 hs.2;rw [zbE k hs.1 hs.2];unfold zaM;simp only;omega
 used := by
  have := zaR (keep := keep) (l := d.1) (i := 0);have h2 := h.used;simp only;omega
theorem RightD.put {d : qa3} (h : RightD d) {f : qb1} (hn : qn3 f.1 = true) (hs : 0<=f.2.2.1/\f.2.2.1<=f.2.1.length) (hu : (qh7 (qk5 d.1 f) : Int)<=d.2.1) (hl : (qk5 d.1 f).length<=64) : RightD (qk5 d.1 f, d.2) where
 room0 := h.room0
 room1 := h.room1
 fuse := h.fuse
 len := hl
 srt := putF_srt h.srt f
 names := fun g hg => by
  rcases qrI hg with rfl | hg
  ·exact hn
  ·exact h.names g hg
 sure := fun g hg => by
  rcases qrI hg with rfl | hg
  ·exact hs
  ·exact h.sure g hg
 used := hu
theorem zw9 (l : List qb1) (n : ByteArray) : qh7 (qiM l n)<=qh7 l := by
 cases hg : qh8 l n with
 | none => rw [zw0 hg]; exact Nat.le_refl _
 | some g => have := zi6 hg; omega
theorem RightD.del {d : qa3} (h : RightD d) (n : ByteArray) : RightD (qiM d.1 n, d.2) where
 room0 := h.room0
 room1 := h.room1
 fuse := h.fuse
 len := Nat.le_trans (delF_len _ _) h.len
 srt := delF_srt h.srt n
 names := fun g hg => h.names g (qrJ hg)
 sure := fun g hg => h.sure g (qrJ hg)
 used := by have := zw9 d.1 n; have := h.used; simp only; omega
theorem RightD.down {d : qa3} (h : RightD d) : RightD (downD d) where
 room0 := h.room0
 room1 := h.room1
 fuse := h.fuse
 len := h.len
 srt := h.srt
 names := h.names
 sure := h.sure
 used := h.used
theorem RightD.burn {d : qa3} (h : RightD d) (h0 : d.2.2.1 ≠ 0) : RightD (qn4 d) where
 room0 := h.room0
 room1 := h.room1
 fuse := by
  have := h.fuse;unfold qn4;simp only;split <;> omega
 len := h.len
 srt := h.srt
 names := h.names
 sure := h.sure
 used := h.used
theorem RightD.go {a b : qa3} (ha : RightD a) (hb : RightD b) (hab : b.2.2.1 = a.2.2.1) : RightD (goD a b).1 := by
 unfold goD;split
 ·exact ha.down
 ·exact hb.burn (by rw [hab]; assumption)
theorem qmQ {d : qa3} (h : RightD d) {ns : List ByteArray} {n : ByteArray} {k : qb1->qa3 × (Int × Unit)} (hk : ∀ f, qgF d ns = 0->qh8 d.1 n = some f->RightD (k f).1) : RightD (onD d ns n k).1 := by
 unfold onD;split
 ·exact h
 ·rename_i he
  have he : qgF d ns = 0 := by simpa using he
  split
  ·exact h
  ·rename_i f hf
   exact hk f he hf
theorem RightD.app {d : qa3} (h : RightD d) {n : ByteArray} {b : List Int} (hn : qn3 n = true) (hc : ¬ (d.2.1 < qh7 d.1 + b.length\/(qh8 d.1 n = none/\d.1.length = 64))) : RightD (qk5 d.1 (n, ((fileOf d.1 n).2.1 ++ b, (fileOf d.1 n).2.2)), d.2) := by
 have h64 := h.len;unfold fileOf;cases hg : qh8 d.1 n with
 | none =>
  have hl : d.1.length ≠ 64 := fun hh => hc (.inr ⟨hg, hh⟩)
  refine h.put hn ⟨Int.le_refl _, by simp⟩ ?_ ?_
  ·rw [qnT (by exact hg)]
   simp;omega
  ·rw [qmM (by exact hg)]
   omega
 | some f =>
  have hs := h.sure f (qi0 hg);refine h.put hn ?_ ?_ ?_
  ·simp only [Option.getD_some, List.length_append]
   omega
  ·have := qdT h.srt (f := (n, (f.2.1 ++ b, f.2.2))) (g := f) hg
   simp only [Option.getD_some] at this ⊢;simp only [List.length_append] at this;omega
  ·rw [qcB h.srt (g := f) (by exact hg)]
   exact h64
theorem qpQ {d : qa3} (h : RightD d) (n : ByteArray) (b : List Int) : RightD (qrM d n b).1 := by
 unfold qrM;split
 ·exact h
 ·rename_i he
  have he : qgF d [n] = 0 := by simpa using he
  split
  ·exact h
  ·rename_i hc
   have := h.app ((zw5 he).2.2 n (by simp)) hc;exact this.go this rfl
theorem RightD.same {d : qa3} (h : RightD d) {n : ByteArray} {g f : qb1} (hg : qh8 d.1 n = some g) (hf : f.1 = n) (hs : 0<=f.2.2.1/\f.2.2.1<=f.2.1.length) (hl : f.2.1.length<=g.2.1.length) : RightD (qk5 d.1 f, d.2) := by
 subst hf;have hu := h.used;refine h.put (by rw [← qh5 hg]; exact h.names g (qi0 hg)) hs ?_ ?_
 ·have := qdT h.srt (f := f) hg
  omega
 ·rw [qcB h.srt hg]
  exact h.len
theorem qmR {d : qa3} (h : RightD d) (n : ByteArray) : RightD (qrN d n).1 :=
 qmQ h fun f _ hg => h.go (h.same hg (show f.1 = n from qh5 hg) ⟨by simp only; omega, by simp⟩ (by simp)) rfl
theorem cutF_ok {f : qb1} (h0 : 0<=f.2.2.1) (h1 : f.2.2.1<=f.2.1.length) {k : Int} (h2 : 0<=k) (h3 : k<=f.2.1.length) : ((zi9 f k).2.1.length : Int) = k/\0<=(zi9 f k).2.2.1/\(zi9 f k).2.2.1<=(zi9 f k).2.1.length := by
 have e : ((zi9 f k).2.1.length : Int) = k := by
  unfold zi9;simp only [List.length_take];omega
 rw [e];refine ⟨rfl, ?_⟩;unfold zi9;simp only;split <;> omega
theorem qpR {d : qa3} (h : RightD d) (n : ByteArray) (k : Int) : RightD (cutD d n k).1 :=
 qmQ h fun f _ hg => by
  have hs := h.sure f (qi0 hg);split
  ·exact h
  ·have := cutF_ok hs.1 hs.2 (k := k) (by omega) (by omega)
   exact h.go (h.same hg (show f.1 = n from qh5 hg) this.2 (by omega)) rfl
theorem qpS {d : qa3} (h : RightD d) (n : ByteArray) : RightD (remD d n).1 := qmQ h fun _ _ _ => h.go (h.del n) rfl
theorem goD_free {a b : qa3} (h : a.2.2.1 = -1) (hb : b.2 = a.2) : goD a b = (b, (0, ())) := by
 unfold goD qn4;rw [if_neg (by omega), if_pos (by rw [hb]; exact h)];obtain ⟨l, r, f, t⟩ := b;have e : f = -1 := by rw [← h, ← hb]
 subst e;rfl
theorem qvD {d : qa3} {m : List qb1} (h : d.2.2.1 = -1) : goD d (m, d.2) = ((m, d.2), (0, ())) := goD_free h rfl
def zx0 (n : Nat) : Nat := if n % 2 = 1 then n / 2 ^^^ 3988292384 else n / 2
def qk0 : Nat->Nat->Nat
 | 0, n => n
 | k + 1, n => qk0 k (zx0 n)
theorem half_lt {n : Nat} (h : n < 4294967296) : zx0 n < 4294967296 := by
 unfold zx0;split
 ·exact Nat.xor_lt_two_pow (n := 32) (by omega) (by omega)
 ·omega
theorem qz1 : ∀ (k : Nat) {n : Nat}, n < 4294967296->qk0 k n < 4294967296
 | 0, _, h => h
 | k + 1, _, h => qz1 k (half_lt h)
theorem zx1 {a b : Nat} (ha : a < 4294967296) (hb : b < 4294967296) : a ^^^ b < 4294967296 := Nat.xor_lt_two_pow (n := 32) (by omega) (by omega)
theorem half_xor (a b : Nat) : zx0 (a ^^^ b) = zx0 a ^^^ zx0 b := by
 have h1 : (a ^^^ b) / 2 = a / 2 ^^^ b / 2 := Nat.xor_div_two
 have h2 : (a ^^^ b) % 2 = (a + b) % 2 := by
  have h := Nat.testBit_xor a b 0;simp only [Nat.testBit_zero] at h;rcases Nat.mod_two_eq_zero_or_one a with ha | ha <;> rcases Nat.mod_two_eq_zero_or_one b with hb | hb <;> rcases Nat.mod_two_eq_zero_or_one (a ^^^ b) with hc | hc <;> first | omega | (exfalso; rw [ha, hb, hc] at h; revert h; decide)
 unfold zx0;rw [h1, h2];generalize a / 2 = x;generalize b / 2 = y;generalize 3988292384 = r;rcases Nat.mod_two_eq_zero_or_one a with ha | ha <;> rcases Nat.mod_two_eq_zero_or_one b with hb | hb
 ·rw [if_neg (by omega), if_neg (by omega), if_neg (by omega)]
 ·rw [if_pos (by omega), if_neg (by omega), if_pos (by omega), Nat.xor_assoc]
 ·rw [if_pos (by omega), if_pos (by omega), if_neg (by omega), Nat.xor_assoc, Nat.xor_assoc, Nat.xor_comm y r]
 ·rw [if_neg (by omega), if_pos (by omega), if_pos (by omega)]
  rw [Nat.xor_assoc, ← Nat.xor_assoc r y r, Nat.xor_comm r y, Nat.xor_assoc y r r, Nat.xor_self, Nat.xor_zero]
theorem qpT : ∀ (k a b : Nat), qk0 k (a ^^^ b) = qk0 k a ^^^ qk0 k b
 | 0, _, _ => rfl
 | k + 1, a, b => by simp only [qk0, half_xor, qpT k]
theorem qmS : ∀ (k q : Nat), qk0 k (2 ^ k * q) = q
 | 0, q => by simp [qk0]
 | k + 1, q => by
  have : zx0 (2 ^ (k + 1) * q) = 2 ^ k * q := by
   rw [Nat.pow_succ, Nat.mul_comm (2 ^ k) 2, Nat.mul_assoc];unfold zx0;rw [if_neg (by omega)];omega
  simp only [qk0, this, qmS k]
theorem qhM : ∀ (j k n : Nat), qk0 (j + k) n = qk0 k (qk0 j n)
 | 0, k, n => by simp [qk0]
 | j + 1, k, n => by
  rw [show j + 1 + k = (j + k) + 1 by omega];simp only [qk0, qhM j k]
theorem qiN (a : Nat) : qk0 4 (a % 16) ^^^ a / 16 = qk0 4 a := by
 have h : a = a % 16 ^^^ 2 ^ 4 * (a / 16) := by
  have e := Nat.two_pow_add_eq_or_of_lt (i := 4) (b := a % 16) (Nat.mod_lt _ (by omega)) (a / 16)
  have h2 : (2 ^ 4 * (a / 16)) ||| (a % 16) = (2 ^ 4 * (a / 16)) ^^^ (a % 16) := by
   apply Nat.eq_of_testBit_eq
   intro i;rw [Nat.testBit_or, Nat.testBit_xor, Nat.testBit_two_pow_mul];by_cases hi : 4<=i
   ·have : (a % 16).testBit i = false := Nat.testBit_lt_two_pow (Nat.lt_of_lt_of_le (Nat.mod_lt _ (by omega)) (Nat.pow_le_pow_right (n := 2) (by omega) hi))
    simp [this]
   ·simp [hi]
  rw [Nat.xor_comm, ← h2, ← e];omega
 conv => rhs; rw [h, qpT, qmS]
def stp (n c : Nat) : Nat := qk0 8 (n ^^^ c)
theorem stp_lt {n c : Nat} (h : n < 4294967296) (hc : c < 256) : stp n c < 4294967296 := qz1 8 (zx1 h (by omega))
def qyB (s : Nat) (ns : List Nat) : Nat := 4294967295 ^^^ ns.foldl stp (4294967295 ^^^ s)
theorem qyC : ∀ (ns : List Nat) {a : Nat}, a < 4294967296->(∀ n ∈ ns, n < 256)->ns.foldl stp a < 4294967296
 | [], _, h, _ => h
 | n :: ns, _, h, hb => qyC ns (stp_lt h (hb n (by simp))) (fun m hm => hb m (by simp [hm]))
open IntKind
theorem and1 (n : Nat) (h : n < 4294967296) : bits .and .u32 n 1 = ((n % 2 : Nat) : Int) := by
 have := u32_and_nat n 1 h (by omega);rw [Nat.and_one_is_mod] at this;exact this
theorem and15 (n : Nat) (h : n < 4294967296) : bits .and .u32 n 15 = ((n % 16 : Nat) : Int) := by
 have := u32_and_nat n 15 h (by omega);rw [show (15 : Nat) = 2 ^ 4 - 1 by rfl, Nat.and_two_pow_sub_one_eq_mod] at this;exact this
theorem xorR (n : Nat) (h : n < 4294967296) : bits .xor .u32 n 3988292384 = ((n ^^^ 3988292384 : Nat) : Int) := u32_xor_nat n 3988292384 h (by omega)
theorem notF (n : Nat) (h : n < 4294967296) : bits .xor .u32 (if IntKind.signed .u32 = true then -1 else IntKind.max .u32) n = ((4294967295 ^^^ n : Nat) : Int) := u32_xor_nat 4294967295 n (by omega) h
theorem div2 (n : Nat) : Int.fdiv (n : Int) (2 ^ 1) = ((n / 2 : Nat) : Int) := qzU n 2
theorem div16 (n : Nat) : Int.fdiv (n : Int) (2 ^ 4) = ((n / 16 : Nat) : Int) := qzU n 16
theorem qyD {n m : Nat} (h : n < 4294967296) (h' : m < 4294967296) : bits .xor .u32 n m = ((n ^^^ m : Nat) : Int) := u32_xor_nat n m h h'
theorem qyE (i n : Nat) : qk0 (i + 1) n = zx0 (qk0 i n) := by
 rw [qhM]; rfl
theorem zc7 {n : Nat} (h : n < 4294967296) : qy8 ((n : Int), ()) = some ((qk0 4 n : Nat) : Int) := by
 unfold qy8;rw [qjT 4 (fun i => ((qk0 i n : Nat) : Int)) (out := (((qk0 4 n : Nat) : Int), ())) ?_ ?_ (by rfl)]
 ·rfl
 ·intro i hi
  have hl := qz1 i h;generalize hx : qk0 i n = x at hl;simp only [and1 x hl, div2, xorR _ (show x / 2 < 4294967296 by omega), qyE, hx];rw [show (decide ((i : Int) < 4)) = true by simp; omega, qb8 (by omega)];unfold zx0;rcases Nat.mod_two_eq_zero_or_one x with h1 | h1
  ·rw [h1, if_neg (by omega)]; rfl
  ·rw [h1, if_pos rfl]; rfl
 ·rfl
theorem crc_More {s : Nat} {ns : List Nat} (hs : s < 4294967296) (hb : ∀ n ∈ ns, n < 256) (hl : ns.length < 9223372036854775807) : qy9 ((s : Int), (qd8 ns, ())) = some ((qyB s ns : Nat) : Int) := by
 unfold qy9;have hs' : 4294967295 ^^^ s < 4294967296 := zx1 (by omega) hs;have key : ∀ i, i<=ns.length->(ns.take i).foldl stp (4294967295 ^^^ s) < 4294967296 := fun i _ => qyC _ hs' (fun n hn => hb n (List.mem_of_mem_take hn))
 rw [qjT ns.length (fun i => (((ns.take i).foldl stp (4294967295 ^^^ s) : Nat) : Int)) (out := (((ns.foldl stp (4294967295 ^^^ s) : Nat) : Int), ())) ?_ ?_ (by simp only [notF s hs]; rfl)]
 ·simp only [Option.bind_some, notF _ (qyC ns hs' hb)]
  rfl
 ·intro i hi
  have hc := hb _ (List.getElem_mem hi);simp only [qmL hi, qb0, Option.bind_some];rw [show (decide ((i : Int) < (ns.length : Int))) = true by simp; omega, cond_true, qb8 (by omega)];have hx := key i (by omega);rw [List.take_succ_eq_append_getElem hi, List.foldl_append];generalize (ns.take i).foldl stp (4294967295 ^^^ s) = x at hx;generalize ns[i] = c at hc;have hxc : x ^^^ c < 4294967296 := zx1 hx (by omega);have h4 : qk0 4 (x ^^^ c) < 4294967296 := qz1 4 hxc;rw [qtI c (by omega), qyD hx (by omega), and15 _ hxc, div16, zc7 (by omega), Option.bind_some, qyD (qz1 4 (by omega)) (by omega), qiN, and15 _ h4, div16, zc7 (by omega), Option.bind_some, qyD (qz1 4 (by omega)) (by omega), qiN, ← qhM 4 4];rfl
 ·simp only [qb0]
  rw [show (decide ((ns.length : Int) < (ns.length : Int))) = false by simp, List.take_length];rfl
theorem zx2 {ns : List Nat} (hb : ∀ n ∈ ns, n < 256) (hl : ns.length < 9223372036854775807) : qcA (qd8 ns, ()) = some ((qyB 0 ns : Nat) : Int) := by
 unfold qcA;have := crc_More (s := 0) (by omega) hb hl
 change qy9 (0, (qd8 ns, ())) = _ at this
 rw [this];rfl
def be : Nat->Nat->List Nat
 | 0, _ => []
 | k + 1, n => n / 256 ^ k % 256 :: be k n
def vl (l : List Nat) : Nat := l.foldl (fun a b => a * 256 + b) 0
theorem qgH : ∀ k n : Nat, (be k n).length = k
 | 0, _ => rfl
 | k + 1, n => by simp [be, qgH k n]
theorem be_lt : ∀ (k n : Nat), ∀ x ∈ be k n, x < 256
 | 0, _, x, h => by cases h
 | k + 1, n, x, h => by
  rcases List.mem_cons.1 h with rfl | h
  ·omega
  ·exact be_lt k n x h
theorem qrO : ∀ (l : List Nat) (a : Nat), l.foldl (fun a b => a * 256 + b) a = a * 256 ^ l.length + vl l
 | [], a => by simp [vl]
 | b :: l, a => by
  show l.foldl (fun a b => a * 256 + b) (a * 256 + b) = a * 256 ^ (l.length + 1) + l.foldl (fun a b => a * 256 + b) (0 * 256 + b);rw [qrO l (a * 256 + b), qrO l (0 * 256 + b), Nat.pow_succ];have : (a * 256 + b) * 256 ^ l.length = a * (256 ^ l.length * 256) + b * 256 ^ l.length := by rw [Nat.add_mul, Nat.mul_assoc, Nat.mul_comm 256]
  rw [this];simp only [Nat.zero_mul, Nat.zero_add];omega
theorem qyF (b : Nat) (l : List Nat) : vl (b :: l) = b * 256 ^ l.length + vl l := by
 have := qrO l (0 * 256 + b);unfold vl at *;simp only [List.foldl_cons];rw [this];simp
theorem zx3 (a b : List Nat) : vl (a ++ b) = vl a * 256 ^ b.length + vl b := by
 have := qrO b (vl a);unfold vl at *;rw [List.foldl_append, this]
theorem vl_lt : ∀ {l : List Nat}, (∀ x ∈ l, x < 256)->vl l < 256 ^ l.length
 | [], _ => by simp [vl]
 | b :: l, h => by
  have h1 := h b (List.mem_cons_self ..);have h2 := vl_lt (l := l) fun x hx => h x (List.mem_cons_of_mem _ hx)
  rw [qyF, List.length_cons, Nat.pow_succ];have : b * 256 ^ l.length<=255 * 256 ^ l.length := Nat.mul_le_mul_right _ (by omega);omega
theorem vl_be : ∀ (k n : Nat), vl (be k n) = n % 256 ^ k
 | 0, n => by simp [be, vl, Nat.mod_one]
 | k + 1, n => by
  rw [be, qyF, qgH, vl_be k n, Nat.mod_pow_succ, Nat.mul_comm (256 ^ k)];omega
theorem be_add : ∀ (k m q n : Nat), k<=m->be k (q * 256 ^ m + n) = be k n
 | 0, _, _, _, _ => rfl
 | k + 1, m, q, n, h => by
  rw [be, be, be_add k m q n (by omega)]
  congr 1
  have e : q * 256 ^ m = (q * 256 ^ (m - (k + 1)) * 256) * 256 ^ k := by
   rw [Nat.mul_assoc, Nat.mul_assoc, ← Nat.pow_succ', ← Nat.pow_add]
   congr 2
   omega
  rw [e, Nat.add_comm, Nat.add_mul_div_right _ _ (Nat.pow_pos (by decide)), Nat.add_mul_mod_self_right]
theorem be_vl : ∀ {l : List Nat}, (∀ x ∈ l, x < 256)->be l.length (vl l) = l
 | [], _ => rfl
 | b :: l, h => by
  have h1 := h b (List.mem_cons_self ..);have hl : ∀ x ∈ l, x < 256 := fun x hx => h x (List.mem_cons_of_mem _ hx)
  have h2 := vl_lt hl;rw [qyF, List.length_cons, be, be_add _ _ _ _ (Nat.le_refl _), be_vl hl]
  congr 1
  rw [Nat.add_comm, Nat.add_mul_div_right _ _ (Nat.pow_pos (by decide)), Nat.div_eq_of_lt h2];omega
theorem qrP (n k : Nat) : Int.fdiv (n : Int) (2 ^ k) = ((n / 2 ^ k : Nat) : Int) := by
 rw [Int.fdiv_eq_ediv_of_nonneg _ (Int.le_of_lt (Int.pow_pos (by decide)))]
 norm_cast
theorem zx4 (n : Nat) : IntKind.wrap .u8 (n : Int) = ((n % 256 : Nat) : Int) := by
 rw [IntKind.wrap_u8']; rfl
theorem zc8 {a b : List Nat} (h : a.length + b.length<=1000000) : qn7 (qd8 a) (qd8 b) 1 = some (qd8 (a ++ b)) := by
 have : maxLen = 9223372036854775807\/True := .inr trivial;rw [ql7 (by rw [qb0, qb0]; omega) (by rw [qb0, qb0]; unfold maxLen; omega), qeT]
theorem qrQ (n : Nat) : ∀ (k : Nat) (l : List Nat), k<=8->l.length + k<=1000 →
  qb9 (fun (v : Int × (List Int × Unit)) => bif (decide (v.1 ≥ 0)) then bif (decide (0<=(IntKind.wrap .i64 (8 * v.1)))) then ((qn7 v.2.1 ((IntKind.wrap .u8 (Int.fdiv (n : Int) (2 ^ (Min.min (Int.toNat (IntKind.wrap .i64 (8 * v.1))) 64)))) :: []) 1)).bind (fun (w : (List Int)) => some (.inl ((IntKind.wrap .i64 (v.1 - 1)), (w, ())))) else none else (some v.2).map .inr) ((k : Int) - 1, (qd8 l, ()))
  = some (qd8 (l ++ be k n), ())
 | 0, l, _, _ => by
  refine qg2 ?_
  rw [show ((0 : Nat) : Int) - 1 = -1 from rfl];simp [be]
 | k + 1, l, hk, hl => by
  have e : ((k + 1 : Nat) : Int) - 1 = (k : Int) := by omega
  have e8 : IntKind.wrap .i64 (8 * (k : Int)) = ((8 * k : Nat) : Int) := by rw [qa4 (by omega) (by omega)]; norm_cast
  have em : Min.min (Int.toNat ((8 * k : Nat) : Int)) 64 = 8 * k := by rw [Int.toNat_natCast]; omega
  have ep : (2 : Nat) ^ (8 * k) = 256 ^ k := by rw [Nat.pow_mul]
  have := qrQ n k (l ++ [n / 256 ^ k % 256]) (by omega) (by simp; omega);rw [e];refine (qh1 (t' := ((k : Int) - 1, (qd8 (l ++ [n / 256 ^ k % 256]), ()))) ?_).trans ?_
  ·have d1 : decide ((k : Int) ≥ 0) = true := by simp
   have d2 : decide ((0 : Int)<=((8 * k : Nat) : Int)) = true := decide_eq_true (by omega);have ew : IntKind.wrap .i64 ((k : Int) - 1) = (k : Int) - 1 := qa4 (by omega) (by omega);have ea := zc8 (a := l) (b := [n / 256 ^ k % 256]) (by simp; omega);simp only [e8, em, d1, d2, cond_true, qrP, ep, zx4, ew];rw [show (((n / 256 ^ k % 256 : Nat) : Int) :: [] : List Int) = qd8 [n / 256 ^ k % 256] from rfl, ea];rfl
  ·rw [this]
   simp [be]
open IntKind
theorem u64_nat (x : Int) : ∃ n : Nat, IntKind.wrap .u64 x = (n : Int)/\n < 18446744073709551616 := by
 have h : IntKind.wrap .u64 x = x % 18446744073709551616 := by simp [IntKind.wrap, IntKind.bits, IntKind.signed]
 exact ⟨(x % 18446744073709551616).toNat, by rw [h]; omega, by omega⟩
def le4 (s : Nat) : List Nat := [s % 256, s / 256 % 256, s / 65536 % 256, s / 16777216 % 256]
theorem sum_ints (s : Nat) : ((IntKind.wrap .u8 (s : Int)) :: ((IntKind.wrap .u8 (Int.fdiv (s : Int) (2 ^ 8))) :: ((IntKind.wrap .u8 (Int.fdiv (s : Int) (2 ^ 16))) :: ((IntKind.wrap .u8 (Int.fdiv (s : Int) (2 ^ 24))) :: [])))) = qd8 (le4 s) := by
 simp only [qrP, zx4, le4, qd8, List.map_cons, List.map_nil, Nat.reducePow]
def qgI (e l k b1 b2 b3 b4 b5 b6 : Nat) : List Nat := [] ++ be 4 72 ++ be 4 e ++ be 8 l ++ be 4 k ++ be 8 b1 ++ be 8 b2 ++ be 8 b3 ++ be 8 b4 ++ be 8 b5 ++ be 8 b6
theorem zc9 (e l k b1 b2 b3 b4 b5 b6 : Nat) : ∀ x ∈ qgI e l k b1 b2 b3 b4 b5 b6, x < 256 := by
 intro x hx;simp only [qgI, List.mem_append, List.not_mem_nil, false_or] at hx;rcases hx with (((((((((h | h) | h) | h) | h) | h) | h) | h) | h) | h) <;> exact be_lt _ _ x h
theorem qw5 (e l k b1 b2 b3 b4 b5 b6 : Nat) : (qgI e l k b1 b2 b3 b4 b5 b6).length = 68 := by
 simp [qgI, qgH]
def qrR (e l k b1 b2 b3 b4 b5 b6 : Nat) : List Nat := qgI e l k b1 b2 b3 b4 b5 b6 ++ le4 (qyB 0 (qgI e l k b1 b2 b3 b4 b5 b6))
abbrev qb4 : Type := Int × (Int × (Int × ((Int × (Int × (Int × (Int × (Int × (Int × Unit)))))) × Unit)))
def qbE (f : qb4) : Bool := ((((((decide (f.1 ≥ 1)) && (decide (f.1<=1000000))) && (decide (f.2.1 ≥ 1))) && (decide (f.2.1<=1000000000))) && (decide (f.2.2.1 ≥ 1))) && (decide (f.2.2.1<=6)))
theorem qv2 (a : qb4 × Unit) : qj0 a = some (qbE a.1) := rfl
theorem qvE (f : qb4) {e l k b1 b2 b3 b4 b5 b6 : Nat} (h1 : IntKind.wrap .u64 f.1 = (e : Int)) (h2 : IntKind.wrap .u64 f.2.1 = (l : Int)) (h3 : IntKind.wrap .u64 f.2.2.1 = (k : Int)) (h4 : IntKind.wrap .u64 f.2.2.2.1.1 = (b1 : Int)) (h5 : IntKind.wrap .u64 f.2.2.2.1.2.1 = (b2 : Int)) (h6 : IntKind.wrap .u64 f.2.2.2.1.2.2.1 = (b3 : Int)) (h7 : IntKind.wrap .u64 f.2.2.2.1.2.2.2.1 = (b4 : Int)) (h8 : IntKind.wrap .u64 f.2.2.2.1.2.2.2.2.1 = (b5 : Int)) (h9 : IntKind.wrap .u64 f.2.2.2.1.2.2.2.2.2.1 = (b6 : Int)) :
  qn1 (f, ()) = some (if qbE f = true then (qd8 (qrR e l k b1 b2 b3 b4 b5 b6), (0, ())) else ([], (1, ()))) := by
 have ht := zc9 e l k b1 b2 b3 b4 b5 b6;have hl := qw5 e l k b1 b2 b3 b4 b5 b6;have hs := zx2 (ns := qgI e l k b1 b2 b3 b4 b5 b6) ht (by omega);have w4 : IntKind.wrap .i64 (4 - 1) = ((4 : Nat) : Int) - 1 := rfl;have w8 : IntKind.wrap .i64 (8 - 1) = ((8 : Nat) : Int) - 1 := rfl;have p0 := qrQ 72 4 [] (by decide) (by decide);have c72 : ((72 : Nat) : Int) = 72 := rfl;rw [c72, show qd8 [] = [] from rfl] at p0;unfold qn1;rw [qv2];cases hr : qbE f
 ·rfl
 ·simp only [Option.bind_some, Bool.not_true, cond_false, if_true, w4, w8, h1, h2, h3, h4, h5, h6, h7, h8, h9, p0]
  unfold qgI at hs;simp only [qrQ, qgH, List.length_append, List.length_nil, Nat.reduceAdd, Nat.reduceLeDiff, Option.bind_some, hs, sum_ints, zc8, le4, List.length_cons];rfl
theorem qrS (l : List Nat) (i : Nat) (h : i < l.length) : l.take (i + 1) = l.take i ++ [l[i]] := List.take_succ_eq_append_getElem h
theorem zx5 (bs : List Nat) (hb : ∀ x ∈ bs, x < 256) (hl : bs.length<=8) :
  qb9 (fun (v : Int × (Int × Unit)) => bif (decide (v.2.1 < ((qd8 bs).length : Int))) then ((qj3 (qd8 bs) v.2.1)).bind (fun (w : Int) => some (.inl ((Go.bits Go.BinOp.or Go.IntKind.u64 (IntKind.wrap .u64 (v.1 * (2 ^ 8))) (IntKind.wrap .u64 w)), ((IntKind.wrap .i64 (v.2.1 + 1)), ())))) else (some (v.1, ())).map .inr) (0, (0, ()))
  = some (((vl bs : Nat) : Int), ()) := by
 refine qjT bs.length (fun i => ((vl (bs.take i) : Nat) : Int)) ?_ ?_ (by rfl)
 ·intro i hi
  have hx := hb bs[i] (List.getElem_mem hi);have hv : vl (bs.take i) < 256 ^ (bs.take i).length := vl_lt fun x hx => hb x (List.mem_of_mem_take hx)
  have hle : (bs.take i).length<=7 := by simp; omega
  have hp : 256 ^ (bs.take i).length<=256 ^ 7 := Nat.pow_le_pow_right (by decide) hle;have hv' : vl (bs.take i) < 72057594037927936 := Nat.lt_of_lt_of_le hv hp;have d : decide ((i : Int) < ((qd8 bs).length : Int)) = true := decide_eq_true (by rw [qb0]; omega)
  have w1 : IntKind.wrap .u64 (((vl (bs.take i) : Nat) : Int) * (2 ^ 8)) = ((vl (bs.take i) * 256 : Nat) : Int) := by
   have h : ∀ n : Int, IntKind.wrap .u64 n = n % 18446744073709551616 := fun n => by simp [IntKind.wrap, IntKind.bits, IntKind.signed]
   rw [h]; omega
  have w2 : IntKind.wrap .u64 ((bs[i] : Nat) : Int) = ((bs[i] : Nat) : Int) := by
   have h : ∀ n : Int, IntKind.wrap .u64 n = n % 18446744073709551616 := fun n => by simp [IntKind.wrap, IntKind.bits, IntKind.signed]
   rw [h]; omega
  have w3 := qb8 (n := i) (by omega)
  have e : vl (bs.take (i + 1)) = vl (bs.take i) * 256 + bs[i] := by
   rw [qrS bs i hi, zx3];simp [vl]
  simp only [d, cond_true, qmL hi, Option.bind_some, w1, w2, w3];rw [u64_or_nat _ _ (by omega) (by omega), nat_join 8 _ _ (by omega) (by omega), e]
 ·have d : decide (((bs.length : Nat) : Int) < ((qd8 bs).length : Int)) = false := decide_eq_false (by rw [qb0]; omega)
  simp only [d, cond_false, List.take_length];rfl
theorem qpU (s : Nat) : (le4 s).length = 4 := rfl
theorem le4_get (s i : Nat) (h : i < 4) : (le4 s)[i]'h = s / 256 ^ i % 256 := by
 match i, h with
 | 0, _ => simp [le4]
 | 1, _ => simp [le4]
 | 2, _ => simp [le4]
 | 3, _ => simp [le4]
theorem zj0 (ds : List Nat) (s : Nat) (hd : ds.length = 4) :
  qb9 (fun (v : Bool × (Int × Unit)) => bif (decide (v.2.1 < ((qd8 ds).length : Int))) then ((qj3 (qd8 ds) v.2.1)).bind (fun (w : Int) => (bif v.1 then bif (decide (0<=(IntKind.wrap .i64 (8 * v.2.1)))) then some (w == (IntKind.wrap .u8 (Int.fdiv (s : Int) (2 ^ (Min.min (Int.toNat (IntKind.wrap .i64 (8 * v.2.1))) 32))))) else none else some false).bind (fun (x : Bool) => some (.inl (x, ((IntKind.wrap .i64 (v.2.1 + 1)), ()))))) else (some (v.1, ())).map .inr) (true, (0, ()))
  = some (decide (ds = le4 s), ()) := by
 refine qjT 4 (fun i => decide (ds.take i = (le4 s).take i)) ?_ ?_ (by rfl)
 ·intro i hi
  have hi' : i < ds.length := by omega
  have d : decide ((i : Int) < ((qd8 ds).length : Int)) = true := decide_eq_true (by rw [qb0]; omega);have e8 : IntKind.wrap .i64 (8 * (i : Int)) = ((8 * i : Nat) : Int) := by rw [qa4 (by omega) (by omega)]; norm_cast
  have em : Min.min (Int.toNat ((8 * i : Nat) : Int)) 32 = 8 * i := by rw [Int.toNat_natCast]; omega
  have ep : (2 : Nat) ^ (8 * i) = 256 ^ i := by rw [Nat.pow_mul]
  have d2 : decide ((0 : Int)<=((8 * i : Nat) : Int)) = true := decide_eq_true (by omega);have w3 := qb8 (n := i) (by omega)
  have k : decide (ds.take (i + 1) = (le4 s).take (i + 1)) = (bif decide (ds.take i = (le4 s).take i) then (((ds[i] : Nat) : Int) == ((s / 256 ^ i % 256 : Nat) : Int)) else false) := by
   rw [qrS ds i hi', qrS (le4 s) i hi, le4_get s i hi, Bool.eq_iff_iff];have hln : (ds.take i).length = ((le4 s).take i).length := by simp [qpU]; omega
   by_cases h : ds.take i = (le4 s).take i
   ·simp only [h, decide_true, cond_true, decide_eq_true_eq, beq_iff_eq, List.append_cancel_left_eq, List.cons.injEq, and_true]
    omega
   ·simp only [h, decide_false, cond_false, decide_eq_true_eq, Bool.false_eq_true, iff_false]
    intro h2;exact h (List.append_inj_left h2 hln)
  simp only [d, cond_true, qmL hi', Option.bind_some, e8, em, d2, qrP, ep, zx4, w3, k];cases decide (ds.take i = (le4 s).take i) <;> rfl
 ·have d : decide (((4 : Nat) : Int) < ((qd8 ds).length : Int)) = false := decide_eq_false (by rw [qb0, hd]; omega)
  have t1 : ds.take 4 = ds := List.take_of_length_le (by omega);have t2 : (le4 s).take 4 = le4 s := rfl;simp only [d, cond_false, t1, t2];rfl
def byt (l : List Nat) : Prop := ∀ x ∈ l, x < 256
theorem qr0 {l : List Nat} (k : Nat) (h : byt l) : byt (l.take k) := fun x hx => h x (List.mem_of_mem_take hx)
theorem qgJ {l : List Nat} (k : Nat) (h : byt l) : byt (l.drop k) := fun x hx => h x (List.mem_of_mem_drop hx)
theorem qjU (l : List Nat) (k : Nat) (h : k<=l.length) : qp0 (qd8 l) 0 (k : Int) = some (qd8 (l.take k)) := by
 have := qt5 (qd8 l) (a := 0) (b := k) (by omega) (by rw [qb0]; exact h);rw [show ((0 : Nat) : Int) = 0 from rfl] at this;rw [this, List.drop_zero, qmK]
theorem qrT (l : List Nat) (k : Nat) (h : k<=l.length) : qp0 (qd8 l) (k : Int) ((qd8 l).length : Int) = some (qd8 (l.drop k)) := by
 have := qt5 (qd8 l) (a := k) (b := (qd8 l).length) (by rw [qb0]; exact h) (Nat.le_refl _);rw [this, List.take_length, quX]
theorem zx6 (l : List Nat) (h : 4<=l.length) : qp0 (qd8 l) 0 4 = some (qd8 (l.take 4)) := qjU l 4 h
theorem zx7 (l : List Nat) (h : 8<=l.length) : qp0 (qd8 l) 0 8 = some (qd8 (l.take 8)) := qjU l 8 h
theorem zj1 (l : List Nat) (h : 68<=l.length) : qp0 (qd8 l) 0 68 = some (qd8 (l.take 68)) := qjU l 68 h
theorem zx8 (l : List Nat) (h : 4<=l.length) : qp0 (qd8 l) 4 ((qd8 l).length : Int) = some (qd8 (l.drop 4)) := qrT l 4 h
theorem zx9 (l : List Nat) (h : 8<=l.length) : qp0 (qd8 l) 8 ((qd8 l).length : Int) = some (qd8 (l.drop 8)) := qrT l 8 h
theorem zj2 (l : List Nat) (h : 68<=l.length) : qp0 (qd8 l) 68 ((qd8 l).length : Int) = some (qd8 (l.drop 68)) := qrT l 68 h
theorem take_byt (l : List Nat) (k : Nat) (hb : byt l) (hk : k<=8) :
  qb9 (fun (v : Int × (Int × Unit)) => bif (decide (v.2.1 < ((qd8 (l.take k)).length : Int))) then ((qj3 (qd8 (l.take k)) v.2.1)).bind (fun (w : Int) => some (.inl ((Go.bits Go.BinOp.or Go.IntKind.u64 (IntKind.wrap .u64 (v.1 * (2 ^ 8))) (IntKind.wrap .u64 w)), ((IntKind.wrap .i64 (v.2.1 + 1)), ())))) else (some (v.1, ())).map .inr) (0, (0, ()))
  = some (((vl (l.take k) : Nat) : Int), ()) := zx5 (l.take k) (qr0 k hb) (by rw [List.length_take]; omega)
def qvF (t : List Nat) (i k : Nat) : Int := IntKind.wrap .i64 ((vl ((t.drop i).take k) : Nat) : Int)
def qvG (t : List Nat) : qb4 := (qvF t 4 4, (qvF t 8 8, (qvF t 16 4, ((qvF t 20 8, (qvF t 28 8, (qvF t 36 8, (qvF t 44 8, (qvF t 52 8, (qvF t 60 8, ())))))), ()))))
def noF : qb4 := (0, (0, (0, ((0, (0, (0, (0, (0, (0, ())))))), ()))))
def qz6 (bs : List Nat) : qb4 × (Int × Unit) :=
 if bs.length ≠ 72 then (noF, (2, ())) else if vl (bs.take 4) ≠ 72 then (noF, (2, ())) else if bs.drop 68 ≠ le4 (qyB 0 (bs.take 68)) then (noF, (10, ())) else
 if qbE (qvG (bs.take 68)) = true then (qvG (bs.take 68), (0, ())) else (noF, (2, ()))
theorem qcD (bs : List Nat) (hb : byt bs) : qn2 (qd8 bs, ()) = some (qz6 bs) := by
 unfold qn2 qz6;by_cases hl : bs.length = 72
 rotate_left
 ·have b : (((qd8 bs).length : Int) != 72) = true := by rw [qb0]; simp; omega
  simp only [b, cond_true];rw [if_pos hl];rfl
 have b : (((qd8 bs).length : Int) != 72) = false := by rw [qb0]; simp; omega
 have ht : (bs.take 68).length = 68 := by simp [hl]
 have hd : (bs.drop 68).length = 4 := by simp [hl]
 have bt := qr0 68 hb;have hs := zx2 (ns := bs.take 68) bt (by omega);have h4 : (bs.take 68).take 4 = bs.take 4 := by simp [List.take_take]
 simp only [b, cond_false];rw [zj1 bs (by omega), zj2 bs (by omega)];simp only [Option.bind_some, hs];generalize hT : bs.take 68 = t at *;rw [zj0 _ _ hd];simp only [zx6, zx7, zx8, zx9, take_byt, qr0, qgJ, bt, hb, ht, List.length_drop, Nat.reduceLeDiff, Nat.reduceSub, Option.bind_some, List.drop_drop, Nat.reduceAdd, h4];by_cases hv : vl (bs.take 4) = 72
 ·have bv : (((vl (bs.take 4) : Nat) : Int) != 72) = false := by simp; omega
  by_cases hc : bs.drop 68 = le4 (qyB 0 t)
  ·simp only [bv, hv, hc, hl, cond_false, decide_true, Bool.not_true, ne_eq, not_true, if_false, qv2]
   cases hf : qbE (qvG t) <;> unfold qvG qvF at hf ⊢ <;> simp [hf, noF]
  ·simp [bv, hv, hc, hl, noF]
 ·have bv : (((vl (bs.take 4) : Nat) : Int) != 72) = true := by simp; omega
  simp [bv, hv, hl, noF]
theorem qvH (e l k b1 b2 b3 b4 b5 b6 : Nat) : (qrR e l k b1 b2 b3 b4 b5 b6).length = 72 := by
 unfold qrR;rw [List.length_append, qw5, qpU]
theorem zy0 (n : Int) : IntKind.wrap .u64 n = n % 18446744073709551616 := by simp [IntKind.wrap, IntKind.bits, IntKind.signed]
theorem qaY {x : Int} {n : Nat} (hx : -9223372036854775808<=x/\x < 9223372036854775808) (h : IntKind.wrap .u64 x = (n : Int)) : IntKind.wrap .i64 ((n % 18446744073709551616 : Nat) : Int) = x := by
 rw [zy0] at h;rw [IntKind.wrap_i64];omega
theorem zd0 {x : Int} {n : Nat} (hx : 0<=x/\x < 4294967296) (h : IntKind.wrap .u64 x = (n : Int)) : IntKind.wrap .i64 ((n % 4294967296 : Nat) : Int) = x := by
 rw [zy0] at h;rw [IntKind.wrap_i64];omega
def qjB (f : qb4) : Prop := (-9223372036854775808<=f.1/\f.1 < 9223372036854775808)/\(-9223372036854775808<=f.2.1/\f.2.1 < 9223372036854775808)/\(-9223372036854775808<=f.2.2.1/\f.2.2.1 < 9223372036854775808) ∧
 (-9223372036854775808<=f.2.2.2.1.1/\f.2.2.2.1.1 < 9223372036854775808)/\(-9223372036854775808<=f.2.2.2.1.2.1/\f.2.2.2.1.2.1 < 9223372036854775808)/\(-9223372036854775808<=f.2.2.2.1.2.2.1/\f.2.2.2.1.2.2.1 < 9223372036854775808)/\(-9223372036854775808<=f.2.2.2.1.2.2.2.1/\f.2.2.2.1.2.2.2.1 < 9223372036854775808)/\(-9223372036854775808<=f.2.2.2.1.2.2.2.2.1/\f.2.2.2.1.2.2.2.2.1 < 9223372036854775808)/\(-9223372036854775808<=f.2.2.2.1.2.2.2.2.2.1/\f.2.2.2.1.2.2.2.2.2.1 < 9223372036854775808)
def nU (x : Int) : Nat := (IntKind.wrap .u64 x).toNat
theorem qbF (x : Int) : IntKind.wrap .u64 x = (nU x : Int) := by
 unfold nU;obtain ⟨n, h, _⟩ := u64_nat x;rw [h]; rfl
def qeV (f : qb4) : List Nat := qrR (nU f.1) (nU f.2.1) (nU f.2.2.1) (nU f.2.2.2.1.1) (nU f.2.2.2.1.2.1) (nU f.2.2.2.1.2.2.1) (nU f.2.2.2.1.2.2.2.1) (nU f.2.2.2.1.2.2.2.2.1) (nU f.2.2.2.1.2.2.2.2.2.1)
def encF (f : qb4) : List Int × (Int × Unit) := if qbE f = true then (qd8 (qeV f), (0, ())) else ([], (1, ()))
theorem zy1 (f : qb4) : qn1 (f, ()) = some (encF f) := qvE f (qbF _) (qbF _) (qbF _) (qbF _) (qbF _) (qbF _) (qbF _) (qbF _) (qbF _)
theorem qi8 (f : qb4) : (qeV f).length = 72 := qvH ..
theorem zy2 (e l k b1 b2 b3 b4 b5 b6 : Nat) : byt (qrR e l k b1 b2 b3 b4 b5 b6) := by
 intro x hx;unfold qrR at hx;rcases List.mem_append.1 hx with h | h
 ·exact zc9 _ _ _ _ _ _ _ _ _ x h
 ·simp only [le4, List.mem_cons, List.not_mem_nil, or_false] at h
  omega
theorem zy3 (f : qb4) : byt (qeV f) := zy2 _ _ _ _ _ _ _ _ _
theorem zj3 (e l k b1 b2 b3 b4 b5 b6 : Nat) : (qrR e l k b1 b2 b3 b4 b5 b6).take 68 = qgI e l k b1 b2 b3 b4 b5 b6 := List.take_left' (qw5 ..)
theorem zj4 (e l k b1 b2 b3 b4 b5 b6 : Nat) : (qrR e l k b1 b2 b3 b4 b5 b6).drop 68 = le4 (qyB 0 (qgI e l k b1 b2 b3 b4 b5 b6)) := List.drop_left' (qw5 ..)
theorem qaZ {t : List Nat} {i k n : Nat} (h : (t.drop i).take k = be k n) : qvF t i k = IntKind.wrap .i64 ((n % 256 ^ k : Nat) : Int) := by
 unfold qvF;rw [h, vl_be]
theorem dec_code (f : qb4) (hr : qbE f = true) (hi : qjB f) : qz6 (qeV f) = (f, (0, ())) := by
 obtain ⟨_, _, _, i4, i5, i6, i7, i8, i9⟩ := hi;have hr' := hr;unfold qbE at hr';simp only [Bool.and_eq_true, decide_eq_true_eq] at hr'
 have hf : qvG (qgI (nU f.1) (nU f.2.1) (nU f.2.2.1) (nU f.2.2.2.1.1) (nU f.2.2.2.1.2.1) (nU f.2.2.2.1.2.2.1) (nU f.2.2.2.1.2.2.2.1) (nU f.2.2.2.1.2.2.2.2.1) (nU f.2.2.2.1.2.2.2.2.2.1)) = f := by
  unfold qvG;rw [qaZ (n := nU f.1) rfl, qaZ (n := nU f.2.1) rfl, qaZ (n := nU f.2.2.1) rfl, qaZ (n := nU f.2.2.2.1.1) rfl, qaZ (n := nU f.2.2.2.1.2.1) rfl, qaZ (n := nU f.2.2.2.1.2.2.1) rfl, qaZ (n := nU f.2.2.2.1.2.2.2.1) rfl, qaZ (n := nU f.2.2.2.1.2.2.2.2.1) rfl, qaZ (n := nU f.2.2.2.1.2.2.2.2.2.1) rfl];simp only [Nat.reducePow];rw [zd0 (by omega) (qbF f.1), qaY (by omega) (qbF f.2.1), zd0 (by omega) (qbF f.2.2.1), qaY i4 (qbF _), qaY i5 (qbF _), qaY i6 (qbF _), qaY i7 (qbF _), qaY i8 (qbF _), qaY i9 (qbF _)]
 have hv : vl ((qeV f).take 4) = 72 := by
  show vl (be 4 72) = 72;rw [vl_be]
 have h1 : (qeV f).take 68 = qgI (nU f.1) (nU f.2.1) (nU f.2.2.1) (nU f.2.2.2.1.1) (nU f.2.2.2.1.2.1) (nU f.2.2.2.1.2.2.1) (nU f.2.2.2.1.2.2.2.1) (nU f.2.2.2.1.2.2.2.2.1) (nU f.2.2.2.1.2.2.2.2.2.1) := zj3 ..;have h2 : (qeV f).drop 68 = le4 (qyB 0 ((qeV f).take 68)) := by rw [h1]; exact zj4 ..
 unfold qz6;rw [if_neg (by simp [qi8]), if_neg (by simp [hv]), if_neg (by simp [← h2]), h1, hf, if_pos hr]
theorem qr1 {t : List Nat} (hb : byt t) {i k : Nat} (h : i + k<=t.length) : be k (vl ((t.drop i).take k)) = (t.drop i).take k := by
 have hl : ((t.drop i).take k).length = k := by simp; omega
 have := be_vl (l := (t.drop i).take k) (qr0 k (qgJ i hb))
 rwa [hl] at this
theorem zy4 {t : List Nat} (hb : byt t) (i k : Nat) (hk : k<=8) : nU (qvF t i k) = vl ((t.drop i).take k) := by
 have hlt : vl ((t.drop i).take k) < 256 ^ ((t.drop i).take k).length := vl_lt (qr0 k (qgJ i hb));have hp : 256 ^ ((t.drop i).take k).length<=256 ^ 8 := Nat.pow_le_pow_right (by decide) (by rw [List.length_take]; omega);unfold nU qvF;rw [zy0, IntKind.wrap_i64];omega
theorem qbA (t : List Nat) (i k : Nat) : -9223372036854775808<=qvF t i k/\qvF t i k < 9223372036854775808 := by
 unfold qvF;rw [IntKind.wrap_i64];omega
theorem frmF_in (t : List Nat) : qjB (qvG t) := ⟨qbA .., qbA .., qbA .., qbA .., qbA .., qbA .., qbA .., qbA .., qbA ..⟩
theorem code_dec {bs : List Nat} (hb : byt bs) {g : qb4} (h : qz6 bs = (g, (0, ()))) : qbE g = true/\qeV g = bs/\qjB g/\bs.length = 72 := by
 unfold qz6 at h;split at h
 ·simp at h
 ·rename_i hl
  rw [Ne, Classical.not_not] at hl;split at h
  ·simp at h
  ·rename_i hv
   rw [Ne, Classical.not_not] at hv;split at h
   ·simp at h
   ·rename_i hs
    rw [Ne, Classical.not_not] at hs;split at h
    ·rename_i hr
     simp only [Prod.mk.injEq, and_true] at h;subst h;refine ⟨hr, ?_, frmF_in _, hl⟩;have ht : (bs.take 68).length = 68 := by simp [hl]
     have hbt := qr0 68 hb;have h4 : (bs.take 68).take 4 = bs.take 4 := by rw [List.take_take]; rfl
     have e0 : be 4 72 = (bs.take 68).take 4 := by
      have := qr1 hbt (i := 0) (k := 4) (by omega);rw [List.drop_zero, h4, hv] at this;rw [this, h4]
     generalize hT : bs.take 68 = t at *;have cat : ∀ i k, t.take i ++ (t.drop i).take k = t.take (i + k) := fun i k => (List.take_add ..).symm
     have e : qgI (nU (qvG t).1) (nU (qvG t).2.1) (nU (qvG t).2.2.1) (nU (qvG t).2.2.2.1.1) (nU (qvG t).2.2.2.1.2.1) (nU (qvG t).2.2.2.1.2.2.1) (nU (qvG t).2.2.2.1.2.2.2.1) (nU (qvG t).2.2.2.1.2.2.2.2.1) (nU (qvG t).2.2.2.1.2.2.2.2.2.1) = t := by
      unfold qvG qgI;simp only [zy4 hbt _ 4 (by decide), zy4 hbt _ 8 (by decide), qr1 hbt (show 4 + 4<=t.length by omega), qr1 hbt (show 8 + 8<=t.length by omega), qr1 hbt (show 16 + 4<=t.length by omega), qr1 hbt (show 20 + 8<=t.length by omega), qr1 hbt (show 28 + 8<=t.length by omega), qr1 hbt (show 36 + 8<=t.length by omega), qr1 hbt (show 44 + 8<=t.length by omega), qr1 hbt (show 52 + 8<=t.length by omega), qr1 hbt (show 60 + 8<=t.length by omega)];rw [e0, List.nil_append, cat, cat, cat, cat, cat, cat, cat, cat, cat];exact List.take_of_length_le (by omega)
     unfold qeV qrR;rw [e, ← hs, ← hT, List.take_append_drop]
    ·simp at h
def eqF (f g : qb4) : Bool := (f.1 == g.1) && ((f.2.1 == g.2.1) && ((f.2.2.1 == g.2.2.1) && ((f.2.2.2.1.1 == g.2.2.2.1.1) && ((f.2.2.2.1.2.1 == g.2.2.2.1.2.1) && ((f.2.2.2.1.2.2.1 == g.2.2.2.1.2.2.1) && ((f.2.2.2.1.2.2.2.1 == g.2.2.2.1.2.2.2.1) && ((f.2.2.2.1.2.2.2.2.1 == g.2.2.2.1.2.2.2.2.1) && ((f.2.2.2.1.2.2.2.2.2.1 == g.2.2.2.1.2.2.2.2.2.1) && true))))))))
theorem zy5 (f g : qb4) : eqF f g = true ↔ f = g := by
 obtain ⟨f1, f2, f3, ⟨f4, f5, f6, f7, f8, f9, ⟨⟩⟩, ⟨⟩⟩ := f;obtain ⟨g1, g2, g3, ⟨g4, g5, g6, g7, g8, g9, ⟨⟩⟩, ⟨⟩⟩ := g;simp [eqF, Prod.ext_iff]
open IntKind
def tak (f : qb4) (lsn ep : Int) : Bool := !(((!qbE f) || (f.2.1 != lsn)) || decide (f.1 < ep))
theorem qrU (f : qb4) (lsn ep : Int) : (((!qbE f) || (f.2.1 != lsn)) || decide (f.1 < ep)) = !tak f lsn ep := by
 unfold tak;rw [Bool.not_not]
def qu4 : List qb4->Int->Int->Bool
 | [], _, _ => true
 | f :: l, lsn, ep => tak f lsn ep && qu4 l (f.2.1 + 1) f.1
theorem qmT {f : qb4} {lsn ep : Int} (h : tak f lsn ep = true) : qbE f = true := by
 unfold tak at h;cases hf : qbE f
 ·rw [hf] at h; simp at h
 ·rfl
theorem zy6 {f : qb4} (h : qbE f = true) : IntKind.wrap .i64 (f.2.1 + 1) = f.2.1 + 1 := by
 unfold qbE at h;simp only [Bool.and_eq_true, decide_eq_true_eq] at h;exact qa4 (by omega) (by omega)
def rowF : List qb4->(Int × (Int × Unit))->(Int × (Int × Unit)) ⊕ Bool
 | [], b => .inl b
 | f :: l, b => if tak f b.1 b.2.1 = true then rowF l (f.2.1 + 1, (f.1, ())) else .inr false
theorem zd1 : ∀ (l : List qb4) (b : Int × (Int × Unit)), eX (fun _ => some true) (rowF l b) = some (qu4 l b.1 b.2.1)
 | [], b => rfl
 | f :: l, b => by
  unfold rowF qu4;cases h : tak f b.1 b.2.1
  ·rfl
  ·rw [if_pos rfl, zd1 l, Bool.true_and]
theorem scan_Row (l : List qb4) (hl : l.length < 1000000) (lsn ep : Int) : qcW (l, (lsn, (ep, ()))) = some (qu4 l lsn ep) := by
 unfold qcW;rw [qf4 l (fun i (b : Int × (Int × Unit)) => ((i : Int), b)) rowF (fun _ _ => True) (b := (lsn, (ep, ()))) ?_ ?_ trivial (by rfl)]
 ·rw [Option.bind_some, zd1]
 ·intro b _
  simp only [qxW, cond_false];rfl
 ·intro i b hi _
  simp only [ltI hi, cond_true, qj1 hi, Option.bind_some, qv2];rw [qp7 hi];generalize l[i] = f;cases ht : tak f b.1 b.2.1
  ·right
   have : (((!qbE f) || (f.2.1 != b.1)) || decide (f.1 < b.2.1)) = true := by rw [qrU, ht]; rfl
   rw [this];simp only [rowF, ht, cond_true];rfl
  ·left
   have : (((!qbE f) || (f.2.1 != b.1)) || decide (f.1 < b.2.1)) = false := by rw [qrU, ht]; rfl
   rw [this];refine ⟨(f.2.1 + 1, (f.1, ())), ?_, trivial, ?_⟩
   ·simp only [cond_false, zy6 (qmT ht), qb8 (n := i) (by omega)]
   ·conv => lhs; unfold rowF
    rw [if_pos ht]
def nxt : List qb4->Int->Int->Int × Int
 | [], lsn, ep => (lsn, ep)
 | f :: l, _, _ => nxt l (f.2.1 + 1) f.1
theorem qq6 : ∀ (l m : List qb4) (lsn ep : Int), qu4 (l ++ m) lsn ep = (qu4 l lsn ep && qu4 m (nxt l lsn ep).1 (nxt l lsn ep).2)
 | [], m, lsn, ep => by simp [qu4, nxt]
 | f :: l, m, lsn, ep => by
  simp only [List.cons_append, qu4, nxt, qq6 l m, Bool.and_assoc]
theorem qmU (l : List qb4) (lsn ep : Int) (k : Nat) (h : qu4 l lsn ep = true) : qu4 (l.take k) lsn ep = true := by
 rw [← List.take_append_drop k l, qq6, Bool.and_eq_true] at h;exact h.1
theorem qgK : ∀ (l : List qb4) (lsn ep : Int) (h : l ≠ []), nxt l lsn ep = ((l.getLast h).2.1 + 1, (l.getLast h).1)
 | [f], lsn, ep, _ => rfl
 | f :: g :: l, lsn, ep, h => by
  have e : (f :: g :: l).getLast h = (g :: l).getLast (List.cons_ne_nil _ _) := List.getLast_cons (List.cons_ne_nil _ _);rw [e];exact qgK (g :: l) (f.2.1 + 1) f.1 (List.cons_ne_nil _ _)
theorem qjV : ∀ {l : List qb4} {lsn ep : Int}, qu4 l lsn ep = true->∀ f ∈ l, qbE f = true
 | [], _, _, _, f, hf => by cases hf
 | g :: l, lsn, ep, h, f, hf => by
  simp only [qu4, Bool.and_eq_true] at h;rcases List.mem_cons.1 hf with rfl | hf
  ·exact qmT h.1
  ·exact qjV h.2 f hf
def qi5 (l : List qb4) : List Nat := l.flatMap qeV
theorem qz2 (f : qb4) (l : List qb4) : qi5 (f :: l) = qeV f ++ qi5 l := rfl
theorem qmV (l m : List qb4) : qi5 (l ++ m) = qi5 l ++ qi5 m := by simp [qi5]
theorem qf0 : ∀ l : List qb4, (qi5 l).length = 72 * l.length
 | [] => rfl
 | f :: l => by rw [qz2, List.length_append, qi8, qf0 l, List.length_cons]; omega
theorem qgL (l : List qb4) : byt (qi5 l) := by
 intro x hx;obtain ⟨f, _, h⟩ := List.mem_flatMap.1 hx;exact zy3 f x h
def putG : List qb4->(List Int)->((List Int × Unit) ⊕ (List Int × (Int × Unit)))
 | [], b => .inl (b, ())
 | f :: l, b => if qbE f = true then putG l (b ++ qd8 (qeV f)) else .inr ([], (1, ()))
theorem zd2 : ∀ (l : List qb4) (b : List Int), eX (fun (v : List Int × Unit) => some (v.1, ((0 : Int), ()))) (putG l b) = some (if (∀ f ∈ l, qbE f = true) then (b ++ qd8 (qi5 l), (0, ())) else ([], (1, ())))
 | [], b => by simp [putG, eX, qi5, qd8]
 | f :: l, b => by
  unfold putG;cases h : qbE f
  ·rw [if_neg (by simp), if_neg (by simp [h])]
   rfl
  ·rw [if_pos rfl, zd2 l, qz2, qeT, List.append_assoc]
   by_cases hl : ∀ f ∈ l, qbE f = true
   ·rw [if_pos hl, if_pos (by simpa [h] using hl)]
   ·rw [if_neg hl, if_neg (by simpa [h] using hl)]
theorem scan_Put (l : List qb4) (hl : l.length<=1000) : qu3 (l, ()) = some (if (∀ f ∈ l, qbE f = true) then (qd8 (qi5 l), (0, ())) else ([], (1, ()))) := by
 unfold qu3;rw [qf4 l (fun i (b : List Int) => (b, ((i : Int), ()))) putG (fun i b => b.length<=72 * i) (b := []) ?_ ?_ (by simp) (by rfl)]
 ·rw [Option.bind_some, zd2, List.nil_append]
 ·intro b _
  simp only [qxW, cond_false];rfl
 ·intro i b hi hb
  simp only [ltI hi, cond_true, qj1 hi, Option.bind_some, zy1];rw [qp7 hi];generalize l[i] = f;cases hf : qbE f
  ·right
   simp [encF, hf, putG]
  ·left
   refine ⟨b ++ qd8 (qeV f), ?_, by rw [List.length_append, qb0, qi8]; omega, ?_⟩
   ·simp only [encF, hf, if_true, bne_self_eq_false, cond_false]
    rw [ql7 (by rw [qb0, qi8]; omega) (by rw [qb0, qi8]; unfold maxLen; omega)];simp only [Option.bind_some, qb8 (n := i) (by omega)]
   ·conv => lhs; unfold putG
    rw [if_pos hf]
noncomputable def zj5 (a b : List qb4) : Bool := @decide (a = b) (Classical.propDecidable _)
theorem qz3 (a b : List qb4) : zj5 a b = true ↔ a = b := @decide_eq_true_iff _ (Classical.propDecidable _)
def samF : List qb4->List qb4->Unit ⊕ Bool
 | f :: l, g :: m => if eqF f g = true then samF l m else .inr false
 | _, _ => .inl ()
theorem zd3 : ∀ (l m : List qb4), l.length = m.length->eX (fun _ => some true) (samF l m) = some (zj5 l m)
 | [], [], _ => by
  have : zj5 [] [] = true := (qz3 _ _).2 rfl;rw [this]; rfl
 | f :: l, g :: m, h => by
  unfold samF;cases hf : eqF f g
  ·have : zj5 (f :: l) (g :: m) = false := by
    rw [Bool.eq_false_iff, Ne, qz3];intro e;rw [(zy5 f g).2 (List.cons.inj e).1] at hf;cases hf
   rw [this]; rfl
  ·rw [if_pos rfl, zd3 l m (by simpa using h)]
   congr 1
   rw [Bool.eq_iff_iff, qz3, qz3, (zy5 f g).1 hf];simp
theorem zj6 (a b : List qb4) (hl : a.length < 1000000) : ql4 (a, (b, ())) = some (zj5 a b) := by
 unfold ql4;by_cases h : a.length = b.length
 rotate_left
 ·have e : ((a.length : Int) != (b.length : Int)) = true := by simp; omega
  have : zj5 a b = false := by
   rw [Bool.eq_false_iff, Ne, qz3];intro e; exact h (by rw [e])
  simp only [e, cond_true, this]
 have e : ((a.length : Int) != (b.length : Int)) = false := by simp; omega
 simp only [e, cond_false];rw [qf4 a (fun i (_ : Unit) => ((i : Int), ())) (fun l _ => samF l (b.drop (a.length - l.length))) (fun _ _ => True) (b := ()) ?_ ?_ trivial (by rfl)]
 ·rw [Nat.sub_self, List.drop_zero, Option.bind_some, zd3 a b h]
 ·intro b' _
  simp only [qxW, cond_false];rw [List.length_nil, Nat.sub_zero];rfl
 ·intro i b' hi _
  have hib : i < b.length := by omega
  simp only [ltI hi, cond_true, qj1 hi, qj1 hib, Option.bind_some];have hd : a.length - (a.drop i).length = i := by simp; omega
  have hd1 : a.length - (a.drop (i + 1)).length = i + 1 := by simp; omega
  rw [hd, hd1, qp7 hi, qp7 hib];show (∃ b', (bif !eqF a[i] b[i] then _ else _) = _/\_)\/(bif !eqF a[i] b[i] then _ else _) = _;cases he : eqF a[i] b[i]
  ·right
   simp only [Bool.not_false, cond_true, samF, he];rfl
  ·left
   refine ⟨(), ?_, trivial, ?_⟩
   ·simp only [Bool.not_true, cond_false, qb8 (n := i) (by omega)]
   ·conv => lhs; unfold samF
    rw [if_pos he]
def qcE : Nat->List Nat->Int->Int->List qb4
 | 0, _, _, _ => []
 | n + 1, bs, lsn, ep => if 72<=bs.length/\(qz6 (bs.take 72)).2.1 = 0/\tak (qz6 (bs.take 72)).1 lsn ep = true then (qz6 (bs.take 72)).1 :: qcE n (bs.drop 72) ((qz6 (bs.take 72)).1.2.1 + 1) (qz6 (bs.take 72)).1.1 else []
theorem qeW : ∀ (n : Nat) {bs : List Nat} {lsn ep : Int}, bs.length < 72->qcE n bs lsn ep = []
 | 0, _, _, _, _ => rfl
 | n + 1, bs, lsn, ep, h => by
  unfold qcE;rw [if_neg (by omega)]
theorem qhN : ∀ (n m : Nat) (bs : List Nat) (lsn ep : Int), bs.length < 72 * (n + 1)->bs.length < 72 * (m + 1)->qcE n bs lsn ep = qcE m bs lsn ep
 | 0, m, bs, lsn, ep, h, _ => by rw [qeW m (by omega)]; rfl
 | n + 1, 0, bs, lsn, ep, _, h => by rw [qeW (n + 1) (by omega)]; rfl
 | n + 1, m + 1, bs, lsn, ep, h, h' => by
  unfold qcE;by_cases hc : 72<=bs.length
  ·rw [qhN n m (bs.drop 72) _ _ (by simp; omega) (by simp; omega)]
  ·rw [if_neg (by omega), if_neg (by omega)]
def qm8 (bs : List Nat) (lsn ep : Int) : List qb4 := qcE bs.length bs lsn ep
theorem qeX {bs : List Nat} {lsn ep : Int} (h : bs.length < 72) : qm8 bs lsn ep = [] := qeW _ h
theorem zd4 {bs : List Nat} {lsn ep : Int} (h1 : 72<=bs.length) (h2 : (qz6 (bs.take 72)).2.1 = 0) (h3 : tak (qz6 (bs.take 72)).1 lsn ep = true) : qm8 bs lsn ep = (qz6 (bs.take 72)).1 :: qm8 (bs.drop 72) ((qz6 (bs.take 72)).1.2.1 + 1) (qz6 (bs.take 72)).1.1 := by
 unfold qm8;rw [qhN bs.length (bs.length / 72 + 1) bs lsn ep (by omega) (by omega)]
 conv => lhs; unfold qcE
 rw [if_pos ⟨h1, h2, h3⟩, qhN (bs.drop 72).length (bs.length / 72) (bs.drop 72) _ _ (by simp; omega) (by simp; omega)]
theorem qpV {bs : List Nat} {lsn ep : Int} (h : ¬ ((qz6 (bs.take 72)).2.1 = 0/\tak (qz6 (bs.take 72)).1 lsn ep = true)) : qm8 bs lsn ep = [] := by
 unfold qm8;cases bs.length with
 | zero => rfl
 | succ n =>
  unfold qcE;rw [if_neg fun hc => h hc.2]
theorem dec_err2 (bs : List Nat) : (qz6 bs).2.1 = 0->qbE (qz6 bs).1 = true := by
 intro h;unfold qz6 at h ⊢;split
 ·rename_i h1; rw [if_pos h1] at h; cases h
 ·rename_i h1
  rw [if_neg h1] at h;split
  ·rename_i h2; rw [if_pos h2] at h; cases h
  ·rename_i h2
   rw [if_neg h2] at h;split
   ·rename_i h3; rw [if_pos h3] at h; cases h
   ·rename_i h3
    rw [if_neg h3] at h;split
    ·rename_i h4; exact h4
    ·rename_i h4; rw [if_neg h4] at h; cases h
theorem sub72 (bs : List Nat) (i : Nat) (h : i + 72<=bs.length) : qp0 (qd8 bs) (i : Int) (((i + 72 : Nat)) : Int) = some (qd8 ((bs.drop i).take 72)) := by
 rw [qt5 _ (by omega) (by rw [qb0]; exact h), qmK, quX, List.drop_take]
 congr 4
 omega
theorem qvI (bs : List Nat) (hb : byt bs) (hl : bs.length < 1000000) : ∀ (k : Nat) (out : List qb4) (i : Nat) (lsn ep : Int), bs.length - i<=k->i<=bs.length->out.length<=i →
  ∃ s', qb9 (fun (v1 : ((List qb4) × (Int × (Int × (Int × Unit))))) =>
 bif (decide ((IntKind.wrap .i64 (((qd8 bs).length : Int) - v1.2.1)) ≥ 72)) then ((qp0 (qd8 bs) v1.2.1 (IntKind.wrap .i64 (v1.2.1 + 72)))).bind (fun (v2 : (List Int)) =>
  ((qn2 (v2, ()))).bind (fun (v3 : (qb4 × (Int × Unit))) =>
   bif (v3.2.1 != 0) then (some v1).map .inr
   else ((qj0 (v3.1, ()))).bind (fun (v4 : Bool) =>
   bif (((!v4) || (v3.1.2.1 != v1.2.2.1)) || (decide (v3.1.1 < v1.2.2.2.1))) then (some v1).map .inr
   else ((qn7 v1.1 (v3.1 :: []) 72)).bind (fun (v5 : (List qb4)) =>
    some (.inl (v5, ((IntKind.wrap .i64 (v1.2.1 + 72)), ((IntKind.wrap .i64 (v3.1.2.1 + 1)), (v3.1.1, ())))))))))
 else (some v1).map .inr) (out, ((i : Int), (lsn, (ep, ())))) = some (out ++ qm8 (bs.drop i) lsn ep, (((i + 72 * (qm8 (bs.drop i) lsn ep).length : Nat) : Int), s'))
 | 0, out, i, lsn, ep, hk, hi, ho => by
  have : (bs.drop i).length < 72 := by simp; omega
  rw [qeX this];refine ⟨(lsn, (ep, ())), qg2 ?_⟩;have w : IntKind.wrap .i64 (((qd8 bs).length : Int) - (i : Int)) = ((bs.length - i : Nat) : Int) := by rw [qb0, qa4 (by omega) (by omega)]; omega
  simp only [w];rw [show decide (((bs.length - i : Nat) : Int) ≥ 72) = false by simp; omega, cond_false, List.append_nil];rfl
 | k + 1, out, i, lsn, ep, hk, hi, ho => by
  have w : IntKind.wrap .i64 (((qd8 bs).length : Int) - (i : Int)) = ((bs.length - i : Nat) : Int) := by rw [qb0, qa4 (by omega) (by omega)]; omega
  by_cases h72 : i + 72<=bs.length
  rotate_left
  ·rw [qeX (bs := bs.drop i) (by simp; omega)]
   refine ⟨(lsn, (ep, ())), qg2 ?_⟩;simp only [w];rw [show decide (((bs.length - i : Nat) : Int) ≥ 72) = false by simp; omega, cond_false, List.append_nil];rfl
  have w2 : IntKind.wrap .i64 ((i : Int) + 72) = ((i + 72 : Nat) : Int) := by rw [qa4 (by omega) (by omega)]; rfl
  have hd := sub72 bs i h72;have hb2 : byt ((bs.drop i).take 72) := qr0 _ (qgJ _ hb);have hge : decide (((bs.length - i : Nat) : Int) ≥ 72) = true := decide_eq_true (by omega);by_cases hz : (qz6 ((bs.drop i).take 72)).2.1 = 0
  rotate_left
  ·rw [qpV (fun h => hz h.1)]
   refine ⟨(lsn, (ep, ())), qg2 ?_⟩;have hz' : ((qz6 ((bs.drop i).take 72)).2.1 != 0) = true := by simpa using hz
   simp only [w, hge, cond_true, w2, hd, Option.bind_some, qcD _ hb2, hz', List.append_nil];rfl
  have hz' : ((qz6 ((bs.drop i).take 72)).2.1 != 0) = false := by simpa using hz
  cases ht : tak (qz6 ((bs.drop i).take 72)).1 lsn ep
  ·rw [qpV (fun h => by rw [ht] at h; cases h.2)]
   refine ⟨(lsn, (ep, ())), qg2 ?_⟩;simp only [w, hge, cond_true, cond_false, w2, hd, Option.bind_some, qcD _ hb2, hz', qv2, qrU, ht, Bool.not_false, List.append_nil];rfl
  ·rw [zd4 (by simp; omega) hz ht]
   obtain ⟨s', ih⟩ := qvI bs hb hl k (out ++ [(qz6 ((bs.drop i).take 72)).1]) (i + 72) ((qz6 ((bs.drop i).take 72)).1.2.1 + 1) (qz6 ((bs.drop i).take 72)).1.1 (by omega) (by omega) (by simp; omega);refine ⟨s', ?_⟩;rw [List.drop_drop];rw [qh1 (t' := (out ++ [(qz6 ((bs.drop i).take 72)).1], (((i + 72 : Nat) : Int), ((qz6 ((bs.drop i).take 72)).1.2.1 + 1, ((qz6 ((bs.drop i).take 72)).1.1, ()))))), ih]
   ·rw [List.append_assoc, List.length_cons]
    congr 4
    omega
   ·simp only [w, hge, cond_true, cond_false, w2, hd, Option.bind_some, qcD _ hb2, hz', qv2, qrU, ht, Bool.not_true]
    rw [ql7 (by simp; omega) (by simp; unfold maxLen; omega)];simp only [Option.bind_some, zy6 (dec_err2 _ hz)]
theorem zy7 {bs : List Nat} (hb : byt bs) (hl : bs.length < 1000000) (lsn ep : Int) : qaX (qd8 bs, (lsn, (ep, ()))) = some (qm8 bs lsn ep, (((72 * (qm8 bs lsn ep).length : Nat) : Int), ())) := by
 unfold qaX;obtain ⟨s', h⟩ := qvI bs hb hl bs.length [] 0 lsn ep (by omega) (by omega) (by simp);have h0 : ((0 : Nat) : Int) = 0 := rfl;rw [h0, List.drop_zero, Nat.zero_add, List.nil_append] at h;show (qb9 _ ([], (0, (lsn, (ep, ()))))).bind _ = _;rw [h];rfl
theorem zj7 (l m : List qb4) (lsn ep : Int) : nxt (l ++ m) lsn ep = nxt m (nxt l lsn ep).1 (nxt l lsn ep).2 := by
 induction l generalizing lsn ep with
 | nil => rfl
 | cons f l ih => simp only [List.cons_append, nxt, ih]
theorem zd5 {f : qb4} {lsn ep : Int} : tak f lsn ep = true->f.2.1 = lsn/\ep<=f.1 := by
 intro h;unfold tak at h;simp only [Bool.not_eq_true', Bool.or_eq_false_iff, bne_eq_false_iff_eq, decide_eq_false_iff_not] at h;exact ⟨h.1.2, by omega⟩
theorem qvJ : ∀ (l : List qb4) (rest : List Nat) (lsn ep : Int), qu4 l lsn ep = true->(∀ f ∈ l, qjB f)->qm8 (qi5 l ++ rest) lsn ep = l ++ qm8 rest (nxt l lsn ep).1 (nxt l lsn ep).2
 | [], rest, lsn, ep, _, _ => rfl
 | f :: l, rest, lsn, ep, h, hi => by
  simp only [qu4, Bool.and_eq_true] at h
  have ht : ((qi5 (f :: l) ++ rest).take 72) = qeV f := by
   rw [qz2, List.append_assoc];exact List.take_left' (qi8 f)
  have hd : ((qi5 (f :: l) ++ rest).drop 72) = qi5 l ++ rest := by
   rw [qz2, List.append_assoc];exact List.drop_left' (qi8 f)
  have hdec := dec_code f (qmT h.1) (hi f (List.mem_cons_self ..));rw [zd4 (by rw [List.length_append, qz2, List.length_append, qi8]; omega) (by rw [ht, hdec]) (by rw [ht, hdec]; exact h.1), ht, hd, hdec];rw [qvJ l rest _ _ h.2 fun g hg => hi g (List.mem_cons_of_mem _ hg)];rfl
theorem qeY : ∀ (n : Nat) (bs : List Nat) (lsn ep : Int), byt bs->qu4 (qcE n bs lsn ep) lsn ep = true/\qi5 (qcE n bs lsn ep) = bs.take (72 * (qcE n bs lsn ep).length)/\72 * (qcE n bs lsn ep).length<=bs.length/\∀ f ∈ qcE n bs lsn ep, qjB f
 | 0, bs, lsn, ep, _ => ⟨rfl, rfl, Nat.zero_le _, fun f hf => by cases hf⟩
 | n + 1, bs, lsn, ep, hb => by
  unfold qcE;split
  ·rename_i h
   obtain ⟨i1, i2, i3, i4⟩ := qeY n (bs.drop 72) ((qz6 (bs.take 72)).1.2.1 + 1) (qz6 (bs.take 72)).1.1 (qgJ _ hb)
   have hp : qz6 (bs.take 72) = ((qz6 (bs.take 72)).1, (0, ())) := by
    have h2 := h.2.1;generalize qz6 (bs.take 72) = d at h2 ⊢;obtain ⟨a, b, ⟨⟩⟩ := d;simp only at h2;rw [h2]
   obtain ⟨c1, c2, c3, _⟩ := code_dec (qr0 72 hb) hp;rw [List.length_drop] at i3;refine ⟨?_, ?_, ?_, ?_⟩
   ·simp only [qu4, h.2.2, i1, Bool.and_self]
   ·rw [qz2, c2, i2, List.length_cons, show 72 * ((qcE n (bs.drop 72) ((qz6 (bs.take 72)).1.2.1 + 1) (qz6 (bs.take 72)).1.1).length + 1) = 72 + 72 * (qcE n (bs.drop 72) ((qz6 (bs.take 72)).1.2.1 + 1) (qz6 (bs.take 72)).1.1).length by omega, List.take_add]
   ·rw [List.length_cons]; omega
   ·intro f hf
    rcases List.mem_cons.1 hf with rfl | hf
    ·exact c3
    ·exact i4 f hf
  ·exact ⟨rfl, rfl, Nat.zero_le _, fun f hf => by cases hf⟩
theorem qvK {bs : List Nat} (hb : byt bs) (lsn ep : Int) : qu4 (qm8 bs lsn ep) lsn ep = true := (qeY _ bs lsn ep hb).1
theorem zd6 {bs : List Nat} (hb : byt bs) (lsn ep : Int) : 72 * (qm8 bs lsn ep).length<=bs.length := (qeY _ bs lsn ep hb).2.2.1
open Go.Lib
def dig : Nat->Nat->List UInt8
 | 0, _ => []
 | k + 1, n => dig k (n / 10) ++ [UInt8.ofNat (48 + n % 10)]
theorem qhO : ∀ k n, (dig k n).length = k
 | 0, _ => rfl
 | k + 1, n => by simp [dig, qhO k]
theorem zd7 : ∀ k, dig k 0 = List.replicate k 48
 | 0 => rfl
 | k + 1 => by
  simp only [dig, Nat.zero_div, zd7 k, Nat.zero_mod, Nat.add_zero];rw [List.replicate_succ'];rfl
theorem zy8 : ∀ (k n : Nat), 0 < k->n < 10 ^ k->(decDigits n).length<=k/\List.replicate (k - (decDigits n).length) 48 ++ decDigits n = dig k n
 | 0, _, h, _ => by omega
 | k + 1, n, _, h => by
  by_cases hn : n < 10
  ·rw [decDigits_one hn]
   refine ⟨by simp, ?_⟩;have h0 : n / 10 = 0 := by omega
   simp only [dig, h0, zd7, Nat.mod_eq_of_lt hn, List.length_cons, List.length_nil, Nat.zero_add, Nat.add_sub_cancel]
  ·have hk : 0 < k := by
    rcases Nat.eq_zero_or_pos k with e | e
    ·subst e; simp at h; omega
    ·exact e
   have hd : n / 10 < 10 ^ k := by rw [Nat.pow_succ] at h; omega
   obtain ⟨i1, i2⟩ := zy8 k (n / 10) hk hd;have e : decDigits n = decDigits (n / 10) ++ [UInt8.ofNat (48 + n % 10)] := by rw [decDigits, dif_neg hn]
   refine ⟨by rw [e]; simp; omega, ?_⟩;rw [e, List.length_append, ← List.append_assoc];have e2 : k + 1 - ((decDigits (n / 10)).length + [UInt8.ofNat (48 + n % 10)].length) = k - (decDigits (n / 10)).length := by simp
   rw [e2, i2];rfl
def zy9 : List UInt8 := [108, 111, 103, 46]
def qt6 (n : Nat) : List UInt8 := zy9 ++ dig 10 n
theorem qiO (n : Nat) : (qt6 n).length = 14 := by simp [qt6, zy9, qhO]
def valL (l : List UInt8) (n : Nat) : Nat := l.foldl (fun n c => n * 10 + (c.toNat - 48)) n
theorem qyG (a b : List UInt8) (n : Nat) : valL (a ++ b) n = valL b (valL a n) := by simp [valL]
theorem qvL (m : Nat) : (UInt8.ofNat (48 + m % 10)).toNat = 48 + m % 10 := by
 have : 48 + m % 10 < 256 := by omega
 simp [UInt8.toNat_ofNat, Nat.mod_eq_of_lt this]
theorem qjW : ∀ (k n s : Nat), n < 10 ^ k->valL (dig k n) s = s * 10 ^ k + n
 | 0, n, s, h => by simp at h; subst h; simp [dig, valL]
 | k + 1, n, s, h => by
  have hd : n / 10 < 10 ^ k := by rw [Nat.pow_succ] at h; omega
  rw [dig, qyG, qjW k (n / 10) s hd];simp only [valL, List.foldl_cons, List.foldl_nil, qvL];rw [Nat.pow_succ, Nat.add_mul, Nat.mul_assoc];omega
theorem qmW : ∀ (k n : Nat), ∀ c ∈ dig k n, 48<=c.toNat/\c.toNat<=57
 | 0, _, c, h => by cases h
 | k + 1, n, c, h => by
  rcases List.mem_append.1 h with h | h
  ·exact qmW k (n / 10) c h
  ·rw [List.mem_singleton] at h
   subst h;rw [qvL];omega
theorem dig_inj {k a b : Nat} (ha : a < 10 ^ k) (hb : b < 10 ^ k) (h : dig k a = dig k b) : a = b := by
 have h1 := qjW k a 0 ha;have h2 := qjW k b 0 hb;rw [h, h2] at h1;omega
theorem qvM {a b : Nat} (ha : a < 10 ^ 10) (hb : b < 10 ^ 10) (h : qt6 a = qt6 b) : a = b := dig_inj ha hb (List.append_cancel_left h)
open Go.Lib IntKind
def bs (l : List UInt8) : ByteArray := ⟨l.toArray⟩
theorem qvN (a b : List UInt8) : bs a ++ bs b = bs (a ++ b) := by
 apply ByteArray.ext
 simp [bs]
theorem qx4 (a : List UInt8) : (bs a).size = a.length := by simp [bs, ByteArray.size]
theorem bs_inj {a b : List UInt8} (h : bs a = bs b) : a = b := by
 have := congrArg (fun x => x.data.toList) h;simpa [bs] using this
def qc3 (n : Int) : ByteArray := if n < 1\/n > 1000000000 then bs [] else bs (qt6 n.toNat)
theorem qm5 (n : Int) : qc6 (n, ()) = some (qc3 n) := by
 unfold qc6 qc3;by_cases h : n < 1\/n > 1000000000
 ·rw [if_pos h]
  have e : ((decide (n < 1)) || (decide (n > 1000000000))) = true := by simpa using h
  simp only [e, cond_true];rfl
 ·rw [if_neg h]
  have e : ((decide (n < 1)) || (decide (n > 1000000000))) = false := by simpa using h
  obtain ⟨m, rfl⟩ : ∃ m : Nat, n = m := ⟨n.toNat, by omega⟩;have h10 : (10 : Nat) ^ 10 = 10000000000 := by decide
  obtain ⟨p1, p2⟩ := zy8 10 m (by omega) (by rw [h10]; omega)
  have e1 : qo2 ((m : Int), (10, ())) = some (bs (decDigits m)) := by
   unfold qo2 fmtG
   have e3 : (decide ((10 : Int) = 10) && (decide (-9223372036854775808<=(m : Int)) && decide ((m : Int)<=9223372036854775807))) = true := by
    have a1 : (-9223372036854775808 : Int)<=(m : Int) := by omega
    have a2 : (m : Int)<=9223372036854775807 := by omega
    rw [decide_eq_true a1, decide_eq_true a2];rfl
   rw [e3, cond_true];unfold fmtX;rw [itoa_nonneg];rfl
  have hw : IntKind.wrap .i64 (10 - ((bs (decDigits m)).size : Int)) = ((10 - (decDigits m).length : Nat) : Int) := by
   rw [qx4];have : (10 : Int) - ((decDigits m).length : Int) = ((10 - (decDigits m).length : Nat) : Int) := by omega
   rw [this];exact wrap_small _ (by omega) (by omega)
  have e2 : qs6 (ByteArray.mk (List.toArray (48 :: [])), (((10 - (decDigits m).length : Nat) : Int), ())) = some (bs (List.replicate (10 - (decDigits m).length) 48)) := by
   unfold qs6 repG
   have e3 : (decide (0<=((10 - (decDigits m).length : Nat) : Int)) && (decide (((10 - (decDigits m).length : Nat) : Int)<=9223372036854775807) && decide (((ByteArray.mk (List.toArray (48 :: []))).size : Int) * ((10 - (decDigits m).length : Nat) : Int)<=140737488355328))) = true := by
    have : (ByteArray.mk (List.toArray (48 :: []))).size = 1 := rfl;simp only [this, Bool.and_eq_true, decide_eq_true_eq];omega
   simp only [e3, cond_true, Option.some.injEq];unfold repX;rw [Int.toNat_natCast];have := Lib.repeatL_replicate 48 1 (10 - (decDigits m).length);rw [Nat.mul_one] at this;exact congrArg bs this
  simp only [e, cond_false, e1, Option.bind_some, hw, e2];have hl : ByteArray.mk (List.toArray (108 :: (111 :: (103 :: (46 :: []))))) = bs zy9 := rfl;rw [hl, qvN, qx4, qx4, qvN, qx4];simp only [List.length_append, List.length_replicate];rw [show (decide (4 + (10 - (decDigits m).length)<=9223372036854775807)) = true by simp; omega, show (decide (zy9.length + (10 - (decDigits m).length) + (decDigits m).length<=9223372036854775807)) = true by simp [zy9]; omega];simp only [cond_true, Option.some.injEq, Int.toNat_natCast];rw [List.append_assoc, p2];rfl
open Go.Lib Go.RowKit IntKind
theorem wal_sc1 (n pos : Nat) (hn : n < 10 ^ pos) (hp : pos<=16) : n < 10000000000000000 := by
 have h := Nat.lt_of_lt_of_le hn (Nat.pow_le_pow_right (by decide) hp);simpa using h
theorem wal_sc2 (q : Nat) (h : 48<=q/\q<=57) : wrap32 ((q : Int) - 48) = ((q - 48 : Nat) : Int) := by
 unfold wrap32;omega
theorem wal_sc3 (n d : Nat) (hn2 : n < 10000000000000000) (h : d<=9) : wrap64 (wrap64 ((n : Int) * 10) + wrap64 (d : Int)) = ((n * 10 + d : Nat) : Int) := by
 have e1 : wrap64 ((n : Int) * 10) = ((n * 10 : Nat) : Int) := by unfold wrap64; omega
 have e2 : wrap64 (d : Int) = d := by unfold wrap64; omega
 rw [e1, e2];unfold wrap64;omega
theorem qgM (l : List UInt8) (hl : l.length<=17) (hc : ∀ c ∈ l, 48<=c.toNat/\c.toNat<=57) : ∀ (b pos n : Nat), l.length<=pos + b->pos<=l.length->n < 10 ^ pos->qbY (bs l) b pos n = (valL (l.drop pos) n : Nat)
 | 0, pos, n, hb, hp, _ => by
  have : pos = l.length := by omega
  subst this;rw [List.drop_length]; rfl
 | b + 1, pos, n, hb, hp, hn => by
  unfold qbY;rw [qx4];by_cases h : pos < l.length
  ·rw [if_pos h]
   obtain ⟨q, hq⟩ : ∃ q, q = l[pos]'h := ⟨_, rfl⟩;have hcc : 48<=q.toNat/\q.toNat<=57 := by rw [hq]; exact hc _ (List.getElem_mem h)
   have h2 : pos < (bs l).size := by rw [qx4]; exact h
   have hget : (bs l)[pos]'h2 = q := by
    rw [hq];show (bs l).data[pos]'h2 = l[pos]'h;rfl
   have hdec : Utf8.decode (bs l) pos = (q.toNat, 1) := by
    rw [decode_ascii (bs l) pos h2 (by rw [hget]; omega), hget]
   rw [hdec];have hn2 : n < 10000000000000000 := wal_sc1 n pos hn (by omega);have hd9 : q.toNat - 48<=9 := by omega
   have e2 : wrap64 (wrap64 ((n : Int) * 10) + wrap64 (wrap32 (((q.toNat : Nat) : Int) - 48))) = ((n * 10 + (q.toNat - 48) : Nat) : Int) := by
    rw [wal_sc2 _ hcc, wal_sc3 n _ hn2 hd9]
   have hstep : n * 10 + (q.toNat - 48) < 10 ^ (pos + 1) := by
    rw [Nat.pow_succ];generalize 10 ^ pos = u at hn;omega
   simp only [e2];rw [qgM l hl hc b (pos + 1) (n * 10 + (q.toNat - 48)) (by omega) (by omega) hstep];rw [List.drop_eq_getElem_cons h, ← hq];rfl
  ·rw [if_neg h, List.drop_of_length_le (by omega)]
   rfl
theorem zj8 (l : List UInt8) (hl : l.length<=17) (hc : ∀ c ∈ l, 48<=c.toNat/\c.toNat<=57) : zi4 (bs l) = (valL l 0 : Nat) := by
 have := qgM l hl hc (bs l).size 0 0 (by rw [qx4]; omega) (by omega) (by simp);rw [List.drop_zero] at this;exact this
noncomputable def qbG (s : ByteArray) : Int := by
 classical exact if h : ∃ n : Nat, 1<=n/\n<=1000000000/\s = bs (qt6 n) then ((Classical.choose h : Nat) : Int) else 0
theorem qmX {n : Nat} (h1 : 1<=n) (h2 : n<=1000000000) : qbG (bs (qt6 n)) = n := by
 have h : ∃ m : Nat, 1<=m/\m<=1000000000/\bs (qt6 n) = bs (qt6 m) := ⟨n, h1, h2, rfl⟩;unfold qbG;rw [dif_pos h];obtain ⟨q1, q2, q3⟩ := Classical.choose_spec h;have h10 : (10 : Nat) ^ 10 = 10000000000 := by decide
 have := qvM (by omega) (by omega) (bs_inj q3);rw [← this]
theorem qmY {s : ByteArray} (h : ∀ n : Nat, 1<=n->n<=1000000000->s ≠ bs (qt6 n)) : qbG s = 0 := by
 unfold qbG;rw [dif_neg (fun ⟨n, h1, h2, h3⟩ => h n h1 h2 h3)]
theorem qcF (s : ByteArray) : qw3 (s, ()) = some (qbG s) := by
 have h10 : (10 : Nat) ^ 10 = 10000000000 := by decide
 unfold qw3 numG
 have hhas : ∀ n, s = bs (qt6 n)->hasX s qxR = true/\qmB s qxR = bs (dig 10 n) := by
  rintro n rfl
  have e1 : Lib.hasPrefix (qt6 n) zy9 = true := by
   unfold Lib.hasPrefix qt6;rw [List.isPrefixOf_iff_prefix];exact List.prefix_append _ _
  refine ⟨e1, ?_⟩;show (⟨(Lib.trimPrefix (qt6 n) zy9).toArray⟩ : ByteArray) = _;unfold Lib.trimPrefix;rw [if_pos e1];unfold qt6;rw [List.drop_left];rfl
 have hnum : ∀ n, n < 10 ^ 10->zi4 (bs (dig 10 n)) = n := by
  intro n hn;rw [zj8 _ (by rw [qhO]; omega) (qmW 10 n), qjW 10 n 0 hn];simp
 have hteq : ∀ a b : ByteArray, (a.toList == b.toList) = decide (a = b) := by
  intro a b;rw [toList_data, toList_data, Bool.eq_iff_iff, beq_iff_eq, decide_eq_true_iff];refine ⟨fun h => ?_, fun h => by rw [h]⟩
  apply ByteArray.ext
  exact Array.toList_inj.1 h
 cases hh : hasX s qxR with
 | false =>
  rw [cond_false, qmY];intro n _ _ e;have := (hhas n e).1;rw [hh] at this; cases this
 | true =>
  rw [cond_true, qm5];simp only [Option.bind_some, hteq, Option.some.injEq];by_cases hex : ∃ n : Nat, 1<=n/\n<=1000000000/\s = bs (qt6 n)
  ·obtain ⟨n, h1, h2, rfl⟩ := hex
   rw [(hhas n rfl).2, hnum n (by omega), qmX h1 h2]
   have : qc3 (n : Int) = bs (qt6 n) := by
    unfold qc3;rw [if_neg (by omega), Int.toNat_natCast]
   rw [this];simp
  ·rw [qmY (fun n h1 h2 e => hex ⟨n, h1, h2, e⟩)]
   have hne : qc3 (zi4 (qmB s qxR)) ≠ s := by
    intro e;unfold qc3 at e;split at e
    ·subst e
     have : hasX (bs []) qxR = false := rfl;rw [this] at hh; cases hh
    ·rename_i hn
     exact hex ⟨(zi4 (qmB s qxR)).toNat, by omega, by omega, e.symm⟩
   rw [decide_eq_false hne];rfl
open IntKind
noncomputable def segF : List qb1->List Int->List Int
 | [], b => b
 | f :: l, b => segF l (if qbG f.1 > 0 then b ++ [qbG f.1] else b)
noncomputable def qg9 (d : qa3) : List Int := bif qq1 d then segF d.1 [] else []
theorem qhP : ∀ (l : List qb1) (b : List Int), segF l b = b ++ (l.map fun f => qbG f.1).filter fun n => decide (n > 0)
 | [], b => by simp [segF]
 | f :: l, b => by
  rw [segF, qhP l];by_cases h : qbG f.1 > 0
  ·rw [if_pos h, List.map_cons, List.filter_cons, if_pos (by simpa using h), List.append_assoc]; rfl
  ·rw [if_neg h, List.map_cons, List.filter_cons, if_neg (by simpa using h)]
theorem qdA {d : qa3} (h : qq1 d = true) : d.1.length<=64 := by
 obtain ⟨l, room, fuse, down, ⟨⟩⟩ := d;unfold qq1 at h;simp only [Bool.and_eq_true, decide_eq_true_eq] at h;exact h.1.2.2.2
theorem qq7 (d : qa3) (hn : qv1 d.1) : qd3 (d, ()) = some (qg9 d) := by
 unfold qd3 qg9;rw [qcZ d hn];simp only [Option.bind_some];cases hr : qq1 d with
 | false => rfl
 | true =>
  have hl := qdA hr;obtain ⟨l, room, fuse, down, ⟨⟩⟩ := d;simp only [Bool.not_true, cond_false, cond_true] at hl ⊢;rw [qf4 l (fun i (b : List Int) => (b, ((i : Int), ()))) (fun l b => (segF l b, ())) (fun i b => b.length<=i) (b := []) ?_ ?_ (Nat.le_refl _) (by rfl)]
  ·rfl
  ·intro b _
   simp only [segF];rw [show (decide ((l.length : Int) < (l.length : Int))) = false by simp];rfl
  ·intro i b hi hb
   refine .inl ⟨(if qbG l[i].1 > 0 then b ++ [qbG l[i].1] else b), ?_, ?_, ?_⟩
   ·simp only [ltI hi, cond_true, qj1 hi, Option.bind_some, qcF]
    have hw : IntKind.wrap .i64 ((i : Int) + 1) = ((i + 1 : Nat) : Int) := wrap_small _ (by omega) (by omega);by_cases h : qbG l[i].1 > 0
    ·rw [decide_eq_true h, if_pos h, cond_true, ql7 (by simp; omega) (by simp [maxLen]; omega)]
     simp only [Option.bind_some, hw]
    ·rw [decide_eq_false h, if_neg h, cond_false]
     simp only [Option.bind_some, hw]
   ·split
    ·simp; omega
    ·omega
   ·rw [qp7 hi]; rfl
open IntKind
abbrev qbB : Type := Int × (Int × (Int × (Int × (Int × (Int × Unit)))))
abbrev qn5 : Type := Int × (Int × (Int × (Int × (Int × (List qb4 × Unit)))))
noncomputable def qiP (w : qn5) : Bool := decide (1<=w.1/\w.1<=1000000/\1<=w.2.1/\w.2.1<=1000000001/\0<=w.2.2.1/\w.2.2.1 < w.2.1/\w.2.2.2.2.2.1.length<=32/\(w.2.2.2.2.2.1.length : Int) = w.2.1 - 1 - w.2.2.1) &&
 (qu4 w.2.2.2.2.2.1 (w.2.2.1 + 1) 1 && (decide (∀ f ∈ w.2.2.2.2.2.1, f.1 = w.1) && (if w.2.2.2.1 = 0 then decide (w.2.2.2.2.1 = 0) else decide (1<=w.2.2.2.1/\1<=w.2.2.2.2.1/\w.2.2.2.2.1<=8/\w.2.2.2.1 + w.2.2.2.2.1 = w.2.2.1 + 1))))
def epF (ep : Int) : List qb4->Unit->Unit ⊕ Bool
 | [], _ => .inl ()
 | f :: l, _ => if f.1 = ep then epF ep l () else .inr false
theorem zz0 (ep : Int) (b : Bool) : ∀ l : List qb4, eX (fun _ => some b) (epF ep l ()) = some (decide (∀ f ∈ l, f.1 = ep) && b)
 | [] => by simp [epF, eX]
 | f :: l => by
  unfold epF;by_cases h : f.1 = ep
  ·rw [if_pos h, zz0 ep b l]
   have : (∀ g ∈ l, g.1 = ep) ↔ ∀ g ∈ f :: l, g.1 = ep := by simp [h]
   rw [decide_eq_decide.2 this]
  ·rw [if_neg h]
   simp [h, eX]
theorem qmZ (w : qn5) (hl : w.2.2.2.2.2.1.length < 1000000000) : ql5 (w, ()) = some (qiP w) := by
 obtain ⟨ep, next, sure, seg, count, wait, ⟨⟩⟩ := w;simp only at hl;unfold ql5 qiP;simp only;by_cases h1 : 1<=ep/\ep<=1000000/\1<=next/\next<=1000000001/\0<=sure/\sure < next
 ·have e1 : ((((((decide (ep < 1)) || (decide (ep > 1000000))) || (decide (next < 1))) || (decide (next > 1000000001))) || (decide (sure < 0))) || (decide (sure ≥ next))) = false := by
   simp only [Bool.or_eq_false_iff, decide_eq_false_iff_not]; omega
  rw [e1];simp only [cond_false]
  have w1 : IntKind.wrap .i64 ((IntKind.wrap .i64 (next - 1)) - sure) = next - 1 - sure := by
   rw [qa4 (n := next - 1) (by omega) (by omega), qa4 (by omega) (by omega)]
  have w2 : IntKind.wrap .i64 (sure + 1) = sure + 1 := qa4 (by omega) (by omega);simp only [w1, w2];by_cases h2 : wait.length<=32/\(wait.length : Int) = next - 1 - sure
  ·have e2 : ((decide ((wait.length : Int) > 32)) || ((wait.length : Int) != next - 1 - sure)) = false := by
    simp only [Bool.or_eq_false_iff, decide_eq_false_iff_not, bne_eq_false_iff_eq]; omega
   rw [e2];simp only [cond_false, scan_Row wait (by omega), Option.bind_some];have d1 : decide (1<=ep/\ep<=1000000/\1<=next/\next<=1000000001/\0<=sure/\sure < next/\wait.length<=32/\(wait.length : Int) = next - 1 - sure) = true := decide_eq_true (by omega);rw [d1, Bool.true_and];cases hr : qu4 wait (sure + 1) 1 with
   | false => rfl
   | true =>
    simp only [Bool.not_true, cond_false, Bool.true_and]
    have hseg : (bif (seg == 0) then some (count == 0) else some (((((decide (seg ≥ 1)) && (decide (count ≥ 1))) && (decide (count<=8))) && (decide (seg<=sure + 1))) && ((IntKind.wrap .i64 (seg + count)) == sure + 1))) = some (if seg = 0 then decide (count = 0) else decide (1<=seg/\1<=count/\count<=8/\seg + count = sure + 1)) := by
     by_cases h0 : seg = 0
     ·subst h0
      simp only [beq_self_eq_true, cond_true, if_true];rfl
     ·rw [if_neg h0, show (seg == 0) = false by simpa using h0]
      simp only [cond_false, Option.some.injEq];by_cases h3 : 1<=seg/\1<=count/\count<=8/\seg<=sure + 1
      ·obtain ⟨a1, a2, a3, a4⟩ := h3
       rw [qa4 (n := seg + count) (by omega) (by omega)];rw [Bool.eq_iff_iff];simp only [Bool.and_eq_true, decide_eq_true_eq, beq_iff_eq];omega
      ·rw [Bool.eq_iff_iff]
       simp only [Bool.and_eq_true, decide_eq_true_eq, beq_iff_eq];constructor
       ·rintro ⟨⟨⟨⟨a, b⟩, c⟩, d⟩, _⟩; exact absurd ⟨a, b, c, d⟩ h3
       ·rintro ⟨a, b, c, d⟩; exact absurd ⟨a, b, c, by omega⟩ h3
    generalize (if seg = 0 then decide (count = 0) else decide (1<=seg/\1<=count/\count<=8/\seg + count = sure + 1)) = b at hseg;rw [qf4 wait (fun i (_ : Unit) => ((i : Int), ())) (epF ep) (fun _ _ => True) (b := ()) ?_ ?_ trivial (by rfl)]
    ·rw [Option.bind_some]
     have : (fun _ : Unit => (bif (seg == 0) then some (count == 0) else some (((((decide (seg ≥ 1)) && (decide (count ≥ 1))) && (decide (count<=8))) && (decide (seg<=sure + 1))) && ((IntKind.wrap .i64 (seg + count)) == sure + 1)))) = fun _ => some b := funext fun _ => hseg
     rw [this, zz0]
    ·intro _ _
     simp only [qxW, cond_false];rfl
    ·intro i _ hi _
     simp only [ltI hi, cond_true, qj1 hi, Option.bind_some];rw [qp7 hi];generalize wait[i] = f;by_cases hf : f.1 = ep
     ·left
      refine ⟨(), ?_, trivial, ?_⟩
      ·rw [show (f.1 != ep) = false by simpa using hf]
       simp only [cond_false, qb8 (n := i) (by omega)]
      ·conv => lhs; unfold epF
       rw [if_pos hf]
     ·right
      rw [show (f.1 != ep) = true by simpa using hf];simp only [cond_true];rw [show decide ((i : Int) ≥ 0) = true from decide_eq_true (by omega)];unfold epF;rw [if_neg hf];rfl
  ·have e2 : ((decide ((wait.length : Int) > 32)) || ((wait.length : Int) != next - 1 - sure)) = true := by
    rw [Bool.or_eq_true];simp only [decide_eq_true_eq, bne_iff_ne];omega
   rw [e2];have d1 : decide (1<=ep/\ep<=1000000/\1<=next/\next<=1000000001/\0<=sure/\sure < next/\wait.length<=32/\(wait.length : Int) = next - 1 - sure) = false := decide_eq_false (by omega);rw [d1];rfl
 ·have e1 : ((((((decide (ep < 1)) || (decide (ep > 1000000))) || (decide (next < 1))) || (decide (next > 1000000001))) || (decide (sure < 0))) || (decide (sure ≥ next))) = true := by
   simp only [Bool.or_eq_true, decide_eq_true_eq]; omega
  rw [e1];have d1 : decide (1<=ep/\ep<=1000000/\1<=next/\next<=1000000001/\0<=sure/\sure < next/\wait.length<=32/\(wait.length : Int) = next - 1 - sure) = false := decide_eq_false (by omega);rw [d1];rfl
structure RightW (w : qn5) : Prop where
 ep : 1<=w.1/\w.1<=1000000
 next : 1<=w.2.1/\w.2.1<=1000000001
 sure : 0<=w.2.2.1/\w.2.2.1 < w.2.1
 len : w.2.2.2.2.2.1.length<=32/\(w.2.2.2.2.2.1.length : Int) = w.2.1 - 1 - w.2.2.1
 row : qu4 w.2.2.2.2.2.1 (w.2.2.1 + 1) 1 = true
 eps : ∀ f ∈ w.2.2.2.2.2.1, f.1 = w.1
 seg : (w.2.2.2.1 = 0/\w.2.2.2.2.1 = 0)\/(1<=w.2.2.2.1/\1<=w.2.2.2.2.1/\w.2.2.2.2.1<=8/\w.2.2.2.1 + w.2.2.2.2.1 = w.2.2.1 + 1)
theorem qu5 (w : qn5) : qiP w = true ↔ RightW w := by
 unfold qiP;simp only [Bool.and_eq_true, decide_eq_true_eq];constructor
 ·rintro ⟨⟨h1, h2, h3, h4, h5, h6, h7, h8⟩, h9, h10, h11⟩
  refine ⟨⟨h1, h2⟩, ⟨h3, h4⟩, ⟨h5, h6⟩, ⟨h7, h8⟩, h9, h10, ?_⟩;split at h11
  ·rename_i h; exact .inl ⟨h, by simpa using h11⟩
  ·exact .inr (by simpa using h11)
 ·intro h
  refine ⟨⟨h.ep.1, h.ep.2, h.next.1, h.next.2, h.sure.1, h.sure.2, h.len.1, h.len.2⟩, h.row, h.eps, ?_⟩;rcases h.seg with ⟨a, b⟩ | ⟨a, b, c, d⟩
  ·rw [if_pos a]; simpa using b
  ·rw [if_neg (by omega)]; simp only [decide_eq_true_eq]; exact ⟨a, b, c, d⟩
noncomputable def putW (w : qn5) (k : Int) (b : qbB) : qn5 × (Int × Unit) :=
 if qiP w = false\/k < 1\/6 < k then (w, (1, ())) else if 1000000000 < w.2.1 then (w, (3, ())) else if w.2.2.2.2.2.1.length = 32 then (w, (6, ())) else
  ((w.1, (w.2.1 + 1, (w.2.2.1, (w.2.2.2.1, (w.2.2.2.2.1, (w.2.2.2.2.2.1 ++ [(w.1, (w.2.1, (k, (b, ()))))], ())))))), (0, ()))
theorem zz1 (w : qn5) (hl : w.2.2.2.2.2.1.length < 1000000000) (k : Int) (b : qbB) : ql6 (w, (k, (b, ()))) = some (putW w k b) := by
 unfold ql6 putW;simp only [qmZ w hl, Option.bind_some];cases hr : qiP w with
 | false =>
  simp only [Bool.not_false, cond_true, Option.bind_some];rw [if_pos (.inl trivial)]
 | true =>
  have hR := (qu5 w).1 hr;simp only [Bool.not_true, cond_false];by_cases h1 : k < 1
  ·rw [decide_eq_true h1, if_pos (.inr (.inl h1))]
   rfl
  ·rw [decide_eq_false h1]
   by_cases h2 : 6 < k
   ·rw [if_pos (.inr (.inr h2))]
    simp only [cond_false, Option.bind_some, gt_iff_lt, decide_eq_true h2, cond_true]
   ·rw [if_neg (by simp; omega)]
    simp only [cond_false, Option.bind_some, gt_iff_lt, decide_eq_false h2];by_cases h3 : 1000000000 < w.2.1
    ·rw [if_pos h3, decide_eq_true h3]; rfl
    ·rw [if_neg h3, decide_eq_false h3]
     have h32 := hR.len.1;by_cases h4 : w.2.2.2.2.2.1.length = 32
     ·rw [if_pos h4, h4]; rfl
     ·rw [if_neg h4, show ((w.2.2.2.2.2.1.length : Int) == 32) = false by simp; omega]
      have hn := hR.next;simp only [cond_false];rw [ql7 (by simp; omega) (by simp [maxLen]; omega)];simp only [Option.bind_some, List.nil_append];rw [ql7 (by simp; omega) (by simp [maxLen]; omega)];simp only [Option.bind_some, qa4 (n := w.2.1 + 1) (by omega) (by omega)]
noncomputable def fitF (w : qn5) : List qb1->Bool->(Bool × Unit) ⊕ Bool
 | [], b => .inl (b, ())
 | f :: l, b => if qbG f.1 > 0/\qbG f.1 = w.2.2.2.1 then fitF w l (decide ((f.2.1.length : Int) = w.2.2.2.2.1 * 72)) else if qbG f.1 > w.2.2.1 then .inr false else fitF w l b
noncomputable def qyH (w : qn5) (d : qa3) : Bool := qiP w && (qq1 d && (match fitF w d.1 (decide (w.2.2.2.1 = 0)) with
 | .inl b => b.1
 | .inr b => b))
theorem wal_fits (w : qn5) (d : qa3) (hl : w.2.2.2.2.2.1.length < 1000000000) (hn : qv1 d.1) : qcX (w, (d, ())) = some (qyH w d) := by
 unfold qcX qyH;simp only [qmZ w hl, qcZ d hn, Option.bind_some];cases hr : qiP w with
 | false => rfl
 | true =>
  have hR := (qu5 w).1 hr;cases hd : qq1 d with
  | false => rfl
  | true =>
   have hdl := qdA hd;simp only [Bool.not_true, cond_false, Option.bind_some, Bool.true_and];rw [qf4 d.1 (fun i (b : Bool) => (b, ((i : Int), ()))) (fitF w) (fun _ _ => True) (b := decide (w.2.2.2.1 = 0)) ?_ ?_ trivial (by rfl)]
   ·rw [Option.bind_some]
    cases fitF w d.1 (decide (w.2.2.2.1 = 0)) <;> rfl
   ·intro b _
    simp only [qxW, cond_false];rfl
   ·intro i b hi _
    simp only [ltI hi, cond_true, qj1 hi, Option.bind_some, qcF];rw [qp7 hi];generalize d.1[i] = f
    have hw : IntKind.wrap .i64 (w.2.2.2.2.1 * 72) = w.2.2.2.2.1 * 72 := by
     rcases hR.seg with ⟨_, h⟩ | ⟨_, h, h', _⟩ <;> exact qa4 (by omega) (by omega)
    by_cases h1 : qbG f.1 > 0/\qbG f.1 = w.2.2.2.1
    ·left
     refine ⟨decide ((f.2.1.length : Int) = w.2.2.2.2.1 * 72), ?_, trivial, ?_⟩
     ·rw [decide_eq_true h1.1, show (qbG f.1 == w.2.2.2.1) = true by simpa using h1.2, hw]
      simp only [Bool.and_self, cond_true, Option.bind_some, eX, qb8 (n := i) (by omega)];rfl
     ·conv => lhs; unfold fitF
      rw [if_pos h1]
    ·have e1 : (decide (qbG f.1 > 0) && (qbG f.1 == w.2.2.2.1)) = false := by
      rw [Bool.and_eq_false_iff];simp only [decide_eq_false_iff_not, beq_eq_false_iff_ne];rcases Classical.not_and_iff_not_or_not.1 h1 with h | h
      ·exact .inl h
      ·exact .inr h
     rw [e1];simp only [cond_false];by_cases h2 : qbG f.1 > w.2.2.1
     ·right
      rw [decide_eq_true h2];unfold fitF;rw [if_neg h1, if_pos h2];rfl
     ·left
      refine ⟨b, ?_, trivial, ?_⟩
      ·rw [decide_eq_false h2]
       simp only [cond_false, Option.bind_some, eX, qb8 (n := i) (by omega)]
      ·conv => lhs; unfold fitF
       rw [if_neg h1, if_neg h2]
open IntKind
structure DkW (d : qa3) : Prop where
 right : RightD d
 fuse : d.2.2.1 < 9223372036854775808
theorem DkW.names {d : qa3} (h : DkW d) : qv1 d.1 := h.right.namesOk
theorem zj9 (n : Int) : (qc3 n).size<=14 := by
 unfold qc3;split
 ·rw [qx4]; simp
 ·rw [qx4, qiO]; omega
theorem qcG (n : Int) : (qc3 n).size<=maxLen := Nat.le_trans (zj9 n) (by unfold maxLen; omega)
theorem qjX (a b : qa3) (h : b.2.2.1 = a.2.2.1) (ha : a.2.2.1 < 9223372036854775808) : (goD a b).1.2.2.1 < 9223372036854775808 := by
 unfold goD;split
 ·exact ha
 ·show (if b.2.2.1 = -1 then -1 else b.2.2.1 - 1) < _
  split <;> omega
theorem qrV {d : qa3} {ns : List ByteArray} {n : ByteArray} {k : qb1->qa3 × (Int × Unit)} (h : d.2.2.1 < 9223372036854775808) (hk : ∀ f, (k f).1.2.2.1 < 9223372036854775808) : (onD d ns n k).1.2.2.1 < 9223372036854775808 := by
 unfold onD;split
 ·exact h
 ·split
  ·exact h
  ·exact hk _
theorem DkW.rem {d : qa3} (h : DkW d) (n : ByteArray) : DkW (remD d n).1 := ⟨qpS h.right n, qrV h.fuse fun _ => qjX d _ rfl h.fuse⟩
theorem DkW.sync {d : qa3} (h : DkW d) (n : ByteArray) : DkW (qrN d n).1 := ⟨qmR h.right n, qrV h.fuse fun _ => qjX d _ rfl h.fuse⟩
theorem DkW.cut {d : qa3} (h : DkW d) (n : ByteArray) (k : Int) : DkW (cutD d n k).1 := ⟨qpR h.right n k, qrV h.fuse fun _ => by
 split
 ·exact h.fuse
 ·exact qjX d _ rfl h.fuse⟩
theorem DkW.app {d : qa3} (h : DkW d) (n : ByteArray) (b : List Int) : DkW (qrM d n b).1 := ⟨qpQ h.right n b, by
 unfold qrM;split
 ·exact h.fuse
 ·split
  ·exact h.fuse
  ·exact qjX (qk5 d.1 (n, ((fileOf d.1 n).2.1 ++ b, (fileOf d.1 n).2.2)), d.2) _ rfl h.fuse⟩
noncomputable def remS (s : qa3 × Int) (x : Int) : qa3 × Int := if s.2 = 0 then ((remD s.1 (qc3 x)).1, (remD s.1 (qc3 x)).2.1) else s
noncomputable def qpW (s : qa3 × Int) (l : List Int) : qa3 × Int := l.reverse.foldl remS s
theorem qyI {s : qa3 × Int} (h : DkW s.1) (x : Int) : DkW (remS s x).1 := by
 unfold remS;split
 ·exact h.rem _
 ·exact h
theorem zz2 : ∀ (l : List Int) {s : qa3 × Int}, DkW s.1->DkW (l.foldl remS s).1
 | [], _, h => h
 | x :: l, _, h => zz2 l (qyI h x)
theorem qyJ {s : qa3 × Int} (h : DkW s.1) (l : List Int) : DkW (qpW s l).1 := zz2 _ h
theorem qpX {s : qa3 × Int} (h : DkW s.1) (x : Int) : qx3 qc6 qg4 s x = some (remS s x) := by
 obtain ⟨d, e⟩ := s;unfold qx3 remS;simp only;by_cases he : e = 0
 ·simp only [he, if_true, qm5, Option.bind_some, qyA h.names (qcG x) h.fuse]
  rfl
 ·simp only [he, if_false, show (e == 0) = false by simpa using he, cond_false]
theorem qpY : ∀ (l : List Int) {s : qa3 × Int}, DkW s.1->qs5 qc6 qg4 s l = some (l.foldl remS s)
 | [], _, _ => rfl
 | x :: l, s, h => by
  simp only [qs5, qpX h, Option.bind_some, List.foldl_cons];exact qpY l (qyI h x)
theorem qhQ {d : qa3} (h : DkW d) (e : Int) (l : List Int) (hl : l.length<=1000000) : qb3 ((d, (e, ())), (l, ())) = some ((qpW (d, e) l).1, ((qpW (d, e) l).2, ())) := by
 show remG qc6 qg4 _ = _;unfold remG;rw [if_pos ⟨by simp only; omega, fun s => DkW s.1, h, fun s hs z _ => ⟨remS s z, qpX hs z, qyI hs z⟩⟩];simp only [qpY _ (s := (d, e)) h, Option.map_some];rfl
noncomputable def qw6 (w : qn5) : Int × Int := if w.2.2.2.1 = 0\/w.2.2.2.2.1 = 8 then (w.2.2.1 + 1, 0) else (w.2.2.2.1, w.2.2.2.2.1)
noncomputable def qd2 (w : qn5) : Nat := if 8 - (qw6 w).2 < (w.2.2.2.2.2.1.length : Int) then (8 - (qw6 w).2).toNat else w.2.2.2.2.2.1.length
noncomputable def zk9 (w : qn5) : qn5 := (w.1, (w.2.1, (w.2.2.1 + (qd2 w : Int), ((qw6 w).1, ((qw6 w).2 + (qd2 w : Int), (w.2.2.2.2.2.1.drop (qd2 w), ()))))))
noncomputable def qt7 (w : qn5) (d : qa3) : qa3 × (Int × Unit) :=
 if (qrM d (qc3 (qw6 w).1) (qd8 (qi5 (w.2.2.2.2.2.1.take (qd2 w))))).2.1 = 0 then qrN (qrM d (qc3 (qw6 w).1) (qd8 (qi5 (w.2.2.2.2.2.1.take (qd2 w))))).1 (qc3 (qw6 w).1) else qrM d (qc3 (qw6 w).1) (qd8 (qi5 (w.2.2.2.2.2.1.take (qd2 w))))
noncomputable def qvO : Nat->qn5->qa3->qn5 × (qa3 × (Int × Unit))
 | 0, w, d => (w, (d, (0, ())))
 | k + 1, w, d => if w.2.2.2.2.2.1 = [] then (w, (d, (0, ()))) else if (qt7 w d).2.1 ≠ 0 then (w, qt7 w d) else qvO k (zk9 w) (qt7 w d).1
noncomputable def qrW (w : qn5) (d : qa3) : qn5 × (qa3 × (Int × Unit)) := if qyH w d = true then qvO w.2.2.2.2.2.1.length w d else (w, (d, (1, ())))
structure ComW (w : qn5) : Prop where
 len : w.2.2.2.2.2.1.length<=32
 sure : 0<=w.2.2.1/\w.2.2.1 + w.2.2.2.2.2.1.length<=1000000000
 frm : ∀ f ∈ w.2.2.2.2.2.1, qbE f = true
 count : 0<=w.2.2.2.2.1/\w.2.2.2.2.1<=8
theorem RightW.com {w : qn5} (h : RightW w) : ComW w := ⟨h.len.1, ⟨h.sure.1, by have := h.len.2; have := h.next; omega⟩, qjV h.row, by rcases h.seg with ⟨_, h⟩ | ⟨_, h, h', _⟩ <;> omega⟩
theorem qyK {w : qn5} (h : ComW w) : 0<=(qw6 w).2/\(qw6 w).2<=7 := by
 have := h.count;unfold qw6;split
 ·exact ⟨Int.le_refl 0, (by decide : (0 : Int)<=7)⟩
 ·rename_i h1
  have : w.2.2.2.2.1 ≠ 8 := fun e => h1 (.inr e)
  simp only; omega
theorem qrX {w : qn5} (h : ComW w) : qd2 w<=w.2.2.2.2.2.1.length/\(qd2 w : Int)<=8 - (qw6 w).2/\(w.2.2.2.2.2.1 ≠ []->1<=qd2 w) := by
 have := qyK h;unfold qd2;split
 ·refine ⟨by omega, by omega, fun _ => by omega⟩
 ·refine ⟨Nat.le_refl _, by omega, fun hn => ?_⟩
  have := List.length_pos_iff.2 hn;omega
theorem ComW.got {w : qn5} (h : ComW w) : ComW (zk9 w) := by
 obtain ⟨m1, m2, _⟩ := qrX h;have := qyK h;have h1 := h.len;have h2 := h.sure;refine ⟨?_, ?_, fun f hf => h.frm f (List.mem_of_mem_drop hf), ?_⟩
 ·show (w.2.2.2.2.2.1.drop (qd2 w)).length<=32
  rw [List.length_drop]; omega
 ·show 0<=w.2.2.1 + (qd2 w : Int)/\w.2.2.1 + (qd2 w : Int) + ((w.2.2.2.2.2.1.drop (qd2 w)).length : Int)<=1000000000
  rw [List.length_drop]; omega
 ·show 0<=(qw6 w).2 + (qd2 w : Int)/\(qw6 w).2 + (qd2 w : Int)<=8
  omega
theorem DkW.save {d : qa3} (h : DkW d) (w : qn5) : DkW (qt7 w d).1 := by
 unfold qt7;split
 ·exact (h.app _ _).sync _
 ·exact h.app _ _
theorem com_loop : ∀ (k : Nat) (w : qn5) (d : qa3) (x : Int × (Int × (Int × (Int × (Int × (List qb4 × qa3)))))), w.2.2.2.2.2.1.length<=k->ComW w->DkW d →
  (qb9 (fun (v2 : (Int × (Int × (Int × (Int × (Int × ((List qb4) × ((List qb1) × (Int × (Int × (Bool × (Int × (Int × (Int × (Int × (Int × ((List qb4) × qa3))))))))))))))))) =>
  bif (decide ((v2.2.2.2.2.2.1.length : Int) > 0)) then (
   bif ((v2.2.2.2.1 == 0) || (v2.2.2.2.2.1 == 8)) then some ((IntKind.wrap .i64 (v2.2.2.1 + 1)), (0, ()))
   else some (v2.2.2.2.1, (v2.2.2.2.2.1, ()))).bind (fun (v3 : (Int × (Int × Unit))) =>
   ((qp0 v2.2.2.2.2.2.1 0 (if (false = true) then (if ((IntKind.wrap .i64 (8 - v3.2.1)) > (v2.2.2.2.2.2.1.length : Int)) then (IntKind.wrap .i64 (8 - v3.2.1)) else (v2.2.2.2.2.2.1.length : Int)) else (if ((IntKind.wrap .i64 (8 - v3.2.1)) < (v2.2.2.2.2.2.1.length : Int)) then (IntKind.wrap .i64 (8 - v3.2.1)) else (v2.2.2.2.2.2.1.length : Int))))).bind (fun (v4 : (List qb4)) =>
   ((qu3 (v4, ()))).bind (fun (v5 : ((List Int) × (Int × Unit))) =>
    ((qc6 (v3.1, ()))).bind (fun (v6 : ByteArray) =>
    ((qp5 ((v2.2.2.2.2.2.2.1, (v2.2.2.2.2.2.2.2.1, (v2.2.2.2.2.2.2.2.2.1, (v2.2.2.2.2.2.2.2.2.2.1, ())))), (v6, (v5.1, ()))))).bind (fun (v7 : qa3 × (Int × Unit)) =>
     (
     bif (v7.2.1 == 0) then ((qc6 (v3.1, ()))).bind (fun (v8 : ByteArray) =>
      ((qv0 (v7.1, (v8, ())))).bind (fun (v9 : qa3 × (Int × Unit)) =>
       some (v9.2.1, v9.1)))
     else some (v7.2.1, v7.1)).bind (fun (v10 : (Int × qa3)) =>
     bif (v10.1 != 0) then ((some ((v2.1, (v2.2.1, (v2.2.2.1, (v2.2.2.2.1, (v2.2.2.2.2.1, (v2.2.2.2.2.2.1, ())))))), (v10.2, (v10.1, ())))).map .inr).map .inr
     else ((qp0 v2.2.2.2.2.2.1 (if (false = true) then (if ((IntKind.wrap .i64 (8 - v3.2.1)) > (v2.2.2.2.2.2.1.length : Int)) then (IntKind.wrap .i64 (8 - v3.2.1)) else (v2.2.2.2.2.2.1.length : Int)) else (if ((IntKind.wrap .i64 (8 - v3.2.1)) < (v2.2.2.2.2.2.1.length : Int)) then (IntKind.wrap .i64 (8 - v3.2.1)) else (v2.2.2.2.2.2.1.length : Int))) (v2.2.2.2.2.2.1.length : Int))).bind (fun (v11 : (List qb4)) =>
      ((qn7 [] v11 72)).bind (fun (v12 : (List qb4)) =>
      some (.inl (v2.1, (v2.2.1, ((IntKind.wrap .i64 (v2.2.2.1 + (if (false = true) then (if ((IntKind.wrap .i64 (8 - v3.2.1)) > (v2.2.2.2.2.2.1.length : Int)) then (IntKind.wrap .i64 (8 - v3.2.1)) else (v2.2.2.2.2.2.1.length : Int)) else (if ((IntKind.wrap .i64 (8 - v3.2.1)) < (v2.2.2.2.2.2.1.length : Int)) then (IntKind.wrap .i64 (8 - v3.2.1)) else (v2.2.2.2.2.2.1.length : Int))))), (v3.1, ((IntKind.wrap .i64 (v3.2.1 + (if (false = true) then (if ((IntKind.wrap .i64 (8 - v3.2.1)) > (v2.2.2.2.2.2.1.length : Int)) then (IntKind.wrap .i64 (8 - v3.2.1)) else (v2.2.2.2.2.2.1.length : Int)) else (if ((IntKind.wrap .i64 (8 - v3.2.1)) < (v2.2.2.2.2.2.1.length : Int)) then (IntKind.wrap .i64 (8 - v3.2.1)) else (v2.2.2.2.2.2.1.length : Int))))), (v12, (v10.2.1, (v10.2.2.1, (v10.2.2.2.1, (v10.2.2.2.2.1, v2.2.2.2.2.2.2.2.2.2.2)))))))))))))))))))
  else (some (.inl v2)).map .inr) (w.1, (w.2.1, (w.2.2.1, (w.2.2.2.1, (w.2.2.2.2.1, (w.2.2.2.2.2.1, (d.1, (d.2.1, (d.2.2.1, (d.2.2.2.1, x))))))))))).bind (eX (fun (v13 : (Int × (Int × (Int × (Int × (Int × ((List qb4) × ((List qb1) × (Int × (Int × (Bool × (Int × (Int × (Int × (Int × (Int × ((List qb4) × qa3))))))))))))))))) =>
 some ((v13.1, (v13.2.1, (v13.2.2.1, (v13.2.2.2.1, (v13.2.2.2.2.1, (v13.2.2.2.2.2.1, ())))))), ((v13.2.2.2.2.2.2.1, (v13.2.2.2.2.2.2.2.1, (v13.2.2.2.2.2.2.2.2.1, (v13.2.2.2.2.2.2.2.2.2.1, ())))), (0, ())))))
  = some (qvO k w d) := by
 intro k;generalize hstep : (fun (v2 : (Int × (Int × (Int × (Int × (Int × ((List qb4) × ((List qb1) × (Int × (Int × (Bool × (Int × (Int × (Int × (Int × (Int × ((List qb4) × qa3))))))))))))))))) => _) = step
 induction k with
 | zero =>
  intro w d x hk hw hd;have h0 : w.2.2.2.2.2.1 = [] := List.eq_nil_of_length_eq_zero (by omega);rw [qg2 (e := .inl (w.1, (w.2.1, (w.2.2.1, (w.2.2.2.1, (w.2.2.2.2.1, (w.2.2.2.2.2.1, (d.1, (d.2.1, (d.2.2.1, (d.2.2.2.1, x))))))))))) (by rw [← hstep]; simp only [h0]; rfl)];rfl
 | succ k ih =>
  intro w d x hk hw hd;by_cases h0 : w.2.2.2.2.2.1 = []
  ·rw [qg2 (e := .inl (w.1, (w.2.1, (w.2.2.1, (w.2.2.2.1, (w.2.2.2.2.1, (w.2.2.2.2.2.1, (d.1, (d.2.1, (d.2.2.1, (d.2.2.2.1, x))))))))))) (by rw [← hstep]; simp only [h0]; rfl)]
   unfold qvO;rw [if_pos h0];rfl
  ·obtain ⟨m1, m2, m3⟩ := qrX hw
   obtain ⟨s1, s2⟩ := qyK hw;have hlen := hw.len;have hsure := hw.sure;have hpos := List.length_pos_iff.2 h0
   have hseg : (bif ((w.2.2.2.1 == 0) || (w.2.2.2.2.1 == 8)) then some ((IntKind.wrap .i64 (w.2.2.1 + 1)), ((0 : Int), ())) else some (w.2.2.2.1, (w.2.2.2.2.1, ()))) = some ((qw6 w).1, ((qw6 w).2, ())) := by
    unfold qw6;by_cases h : w.2.2.2.1 = 0\/w.2.2.2.2.1 = 8
    ·rw [if_pos h, show ((w.2.2.2.1 == 0) || (w.2.2.2.2.1 == 8)) = true by simpa using h, qa4 (by omega) (by omega)]
     rfl
    ·rw [if_neg h, show ((w.2.2.2.1 == 0) || (w.2.2.2.2.1 == 8)) = false by simpa using h]
     rfl
   have hmany : (if (false = true) then (if ((IntKind.wrap .i64 (8 - (qw6 w).2)) > (w.2.2.2.2.2.1.length : Int)) then (IntKind.wrap .i64 (8 - (qw6 w).2)) else (w.2.2.2.2.2.1.length : Int)) else (if ((IntKind.wrap .i64 (8 - (qw6 w).2)) < (w.2.2.2.2.2.1.length : Int)) then (IntKind.wrap .i64 (8 - (qw6 w).2)) else (w.2.2.2.2.2.1.length : Int))) = (qd2 w : Int) := by
    rw [qa4 (by omega) (by omega), if_neg (by simp)];unfold qd2;split <;> omega
   have hput : qu3 (w.2.2.2.2.2.1.take (qd2 w), ()) = some (qd8 (qi5 (w.2.2.2.2.2.1.take (qd2 w))), (0, ())) := by
    rw [scan_Put _ (by rw [List.length_take]; omega), if_pos fun f hf => hw.frm f (List.mem_of_mem_take hf)]
   have hbl : (qd8 (qi5 (w.2.2.2.2.2.1.take (qd2 w)))).length<=100000 := by
    rw [qb0, qf0, List.length_take]; omega
   have happ := qxZ (d := d) (n := qc3 (qw6 w).1) hd.names (qcG _) hd.fuse _ hbl;have hd1 := hd.app (qc3 (qw6 w).1) (qd8 (qi5 (w.2.2.2.2.2.1.take (qd2 w))));have hsync := zw7 (d := (qrM d (qc3 (qw6 w).1) (qd8 (qi5 (w.2.2.2.2.2.1.take (qd2 w))))).1) (n := qc3 (qw6 w).1) hd1.names (qcG _) hd1.fuse
   have hsave : (bif ((qrM d (qc3 (qw6 w).1) (qd8 (qi5 (w.2.2.2.2.2.1.take (qd2 w))))).2.1 == 0) then some ((qrN (qrM d (qc3 (qw6 w).1) (qd8 (qi5 (w.2.2.2.2.2.1.take (qd2 w))))).1 (qc3 (qw6 w).1)).2.1, (qrN (qrM d (qc3 (qw6 w).1) (qd8 (qi5 (w.2.2.2.2.2.1.take (qd2 w))))).1 (qc3 (qw6 w).1)).1)
     else some ((qrM d (qc3 (qw6 w).1) (qd8 (qi5 (w.2.2.2.2.2.1.take (qd2 w))))).2.1, (qrM d (qc3 (qw6 w).1) (qd8 (qi5 (w.2.2.2.2.2.1.take (qd2 w))))).1)) = some ((qt7 w d).2.1, (qt7 w d).1) := by
    unfold qt7;by_cases h : (qrM d (qc3 (qw6 w).1) (qd8 (qi5 (w.2.2.2.2.2.1.take (qd2 w))))).2.1 = 0
    ·rw [if_pos h, h]; rfl
    ·rw [if_neg h, show ((qrM d (qc3 (qw6 w).1) (qd8 (qi5 (w.2.2.2.2.2.1.take (qd2 w))))).2.1 == 0) = false by simpa using h]; rfl
   have hgo : step (w.1, (w.2.1, (w.2.2.1, (w.2.2.2.1, (w.2.2.2.2.1, (w.2.2.2.2.2.1, (d.1, (d.2.1, (d.2.2.1, (d.2.2.2.1, x)))))))))) =
     bif ((qt7 w d).2.1 != 0) then some (.inr (.inr (w, qt7 w d))) else some (.inl ((zk9 w).1, ((zk9 w).2.1, ((zk9 w).2.2.1, ((zk9 w).2.2.2.1, ((zk9 w).2.2.2.2.1, ((zk9 w).2.2.2.2.2.1, ((qt7 w d).1.1, ((qt7 w d).1.2.1, ((qt7 w d).1.2.2.1, ((qt7 w d).1.2.2.2.1, x))))))))))) := by
    rw [← hstep];simp only [gt_iff_lt];rw [decide_eq_true (show (0 : Int) < (w.2.2.2.2.2.1.length : Int) by omega)];simp only [cond_true, hseg, Option.bind_some, hmany]
    rw [show qp0 w.2.2.2.2.2.1 0 (qd2 w : Int) = some (w.2.2.2.2.2.1.take (qd2 w)) by
     have := qt5 w.2.2.2.2.2.1 (Nat.zero_le (qd2 w)) m1;simpa using this]
    simp only [Option.bind_some, hput, qm5];rw [show (d.1, (d.2.1, (d.2.2.1, (d.2.2.2.1, ())))) = d from rfl, happ];simp only [Option.bind_some, hsync, hsave];cases (qt7 w d).2.1 != 0 with
    | true => rfl
    | false =>
     simp only [cond_false];rw [qt5 _ m1 (Nat.le_refl _), List.take_length];simp only [Option.bind_some]
     rw [show qn7 [] (w.2.2.2.2.2.1.drop (qd2 w)) 72 = some (w.2.2.2.2.2.1.drop (qd2 w)) by
      skip
      rw [ql7 (by rw [List.length_drop]; simp; omega) (by rw [List.length_drop]; simp [maxLen]; omega)];rfl]
     simp only [Option.bind_some];rw [qa4 (n := w.2.2.1 + (qd2 w : Int)) (by omega) (by omega), qa4 (n := (qw6 w).2 + (qd2 w : Int)) (by omega) (by omega)];rfl
   unfold qvO;rw [if_neg h0];by_cases he : (qt7 w d).2.1 = 0
   ·rw [if_neg (by simpa using he)]
    rw [show ((qt7 w d).2.1 != 0) = false by simpa using he] at hgo;rw [qh1 hgo];refine ih (zk9 w) (qt7 w d).1 x ?_ hw.got (hd.save w)
    show (w.2.2.2.2.2.1.drop (qd2 w)).length<=k;rw [List.length_drop];have := m3 h0;omega
   ·rw [if_pos he]
    rw [show ((qt7 w d).2.1 != 0) = true by simpa using he] at hgo;rw [qg2 hgo];rfl
theorem zk0 (w : qn5) (d : qa3) (hl : w.2.2.2.2.2.1.length < 1000000000) (hd : qv1 d.1) (hf : d.2.2.1 < 9223372036854775808) : qf9 (w, (d, ())) = some (qrW w d) := by
 unfold qf9 qrW;simp only [wal_fits w d hl hd, Option.bind_some];cases hq : qyH w d with
 | false => rfl
 | true =>
  have hR : RightW w/\RightD d := by
   unfold qyH at hq;simp only [Bool.and_eq_true] at hq;exact ⟨(qu5 w).1 hq.1, (qi4 d).1 hq.2.1⟩
  rw [if_pos rfl];exact com_loop _ w d _ (Nat.le_refl _) hR.1.com ⟨hR.2, hf⟩
open IntKind
section
variable {ρ : Type}
noncomputable def delT (base : Int) (all : List qb4) (K : List qb4->ρ) : Option ρ :=
 (qb9 (fun (v56 : (Int × Unit)) =>
  bif (decide (v56.1 < (all.length : Int))) then bif (inI v56.1 all.length) then (all[(Int.toNat v56.1)]?).bind (fun (v57 : qb4) =>
   bif (decide (v57.2.1<=base)) then ((bif (v56.1 == (-1)) then some (K all)
    else (
    qb9 (fun (v58 : (Int × (Int × ((List qb4) × Unit)))) =>
     bif (decide (v58.2.1 < (v58.2.2.1.length : Int))) then bif (inI v58.2.1 v58.2.2.1.length) then (v58.2.2.1[(Int.toNat v58.2.1)]?).bind (fun (v59 : qb4) =>
      (
       bif (!(decide (v59.2.1<=base))) then bif (inI v58.1 v58.2.2.1.length) then (v58.2.2.1[(Int.toNat v58.1)]?).bind (fun (_ : qb4) =>
        some ((IntKind.wrap .i64 (v58.1 + 1)), ((List.set v58.2.2.1 (Int.toNat v58.1) v59), ())))
       else none
       else some (v58.1, v58.2.2)).bind (fun (v61 : (Int × ((List qb4) × Unit))) =>
       some (.inl (v61.1, ((IntKind.wrap .i64 (v58.2.1 + 1)), v61.2)))))
     else none
     else (some (v58.1, v58.2.2)).map .inr) (v56.1, ((IntKind.wrap .i64 (v56.1 + 1)), (all, ())))).bind (fun (v62 : (Int × ((List qb4) × Unit))) =>
    bif (qoP v62.1 (v62.2.1.length : Int) v62.2.1.length) then bif (Nat.ble ((Int.toNat v62.1) + ((Int.toNat (v62.2.1.length : Int)) - (Int.toNat v62.1))) v62.2.1.length) then bif (qoP 0 v62.1 (((v62.2.1.take (Int.toNat v62.1)) ++ (List.replicate ((Int.toNat (v62.2.1.length : Int)) - (Int.toNat v62.1)) (0, (0, (0, ((0, (0, (0, (0, (0, (0, ())))))), ())))))) ++ (v62.2.1.drop ((Int.toNat v62.1) + ((Int.toNat (v62.2.1.length : Int)) - (Int.toNat v62.1))))).length) then some (K (((((v62.2.1.take (Int.toNat v62.1)) ++ (List.replicate ((Int.toNat (v62.2.1.length : Int)) - (Int.toNat v62.1)) (0, (0, (0, ((0, (0, (0, (0, (0, (0, ())))))), ())))))) ++ (v62.2.1.drop ((Int.toNat v62.1) + ((Int.toNat (v62.2.1.length : Int)) - (Int.toNat v62.1))))).drop 0).take ((Int.toNat v62.1) - 0)))
     else none
     else none
    else none)).map .inr).map .inr
   else some (.inl ((IntKind.wrap .i64 (v56.1 + 1)), ())))
  else none
  else (some (.inl ())).map .inr) (0, ())).bind (eX (fun (_ : Unit) => some (K all)))
def qp9 (base : Int) (f : qb4) : Bool := decide (base < f.2.1)
theorem qpZ {i n : Nat} (h : i < n) : inI (i : Int) n = true := by
 unfold inI; exact decide_eq_true ⟨by omega, by omega⟩
theorem zz3 (base : Int) (all : List qb4) (hn : all.length < 1000000000) {step : (Int × (Int × ((List qb4) × Unit)))->Option ((Int × (Int × ((List qb4) × Unit))) ⊕ (Int × ((List qb4) × Unit)))}
  (hstep : step = (fun (v58 : (Int × (Int × ((List qb4) × Unit)))) =>
     bif (decide (v58.2.1 < (v58.2.2.1.length : Int))) then bif (inI v58.2.1 v58.2.2.1.length) then (v58.2.2.1[(Int.toNat v58.2.1)]?).bind (fun (v59 : qb4) =>
      (
       bif (!(decide (v59.2.1<=base))) then bif (inI v58.1 v58.2.2.1.length) then (v58.2.2.1[(Int.toNat v58.1)]?).bind (fun (_ : qb4) =>
        some ((IntKind.wrap .i64 (v58.1 + 1)), ((List.set v58.2.2.1 (Int.toNat v58.1) v59), ())))
       else none
       else some (v58.1, v58.2.2)).bind (fun (v61 : (Int × ((List qb4) × Unit))) =>
       some (.inl (v61.1, ((IntKind.wrap .i64 (v58.2.1 + 1)), v61.2)))))
     else none
     else (some (v58.1, v58.2.2)).map .inr)) :
  ∀ (k j i : Nat) (l : List qb4), all.length - j = k->j<=all.length->i < j->l.length = all.length->l.take i = (all.take j).filter (qp9 base)->l.drop j = all.drop j →
   ∃ (i' : Nat) (l' : List qb4), qb9 step ((i : Int), ((j : Int), (l, ()))) = some ((i' : Int), (l', ()))/\l'.length = all.length/\i'<=all.length/\l'.take i' = all.filter (qp9 base) := by
 intro k
 induction k with
 | zero =>
  intro j i l hk hj hi hl ht hd;have : j = all.length := by omega
  subst this;refine ⟨i, l, qg2 ?_, hl, by omega, by rw [ht, List.take_length]⟩;rw [hstep];simp only [hl, qxW, cond_false];rfl
 | succ k ih =>
  intro j i l hk hj hi hl ht hd;have hj' : j < all.length := by omega
  have hx : l[j]? = some all[j] := by
   have := congrArg (·[0]?) hd;simp only [List.getElem?_drop, Nat.add_zero] at this;rw [this, List.getElem?_eq_getElem hj']
  have hfil : (all.take (j + 1)).filter (qp9 base) = (all.take j).filter (qp9 base) ++ (if qp9 base all[j] then [all[j]] else []) := by
   rw [List.take_succ_eq_append_getElem hj', List.filter_append]
   congr 1
   cases h : qp9 base all[j] <;> simp [List.filter_cons, h]
  have hdrop : l.drop (j + 1) = all.drop (j + 1) := by
   rw [← List.drop_drop, ← List.drop_drop, hd]
  cases hkp : qp9 base all[j] with
  | true =>
   have hb : decide (all[j].2.1<=base) = false := by
    unfold qp9 at hkp;have := of_decide_eq_true hkp;exact decide_eq_false (by omega)
   have hil : i < l.length := by omega
   obtain ⟨i', l', q1, q2, q3, q4⟩ := ih (j + 1) (i + 1) (l.set i all[j]) (by omega) hj' (by omega) (by rw [List.length_set]; exact hl) (by
    rw [hfil, hkp, if_pos rfl, ← ht, List.take_succ_eq_append_getElem (by rw [List.length_set]; exact hil), List.getElem_set_self]
    congr 1
    rw [List.take_set_of_le (Nat.le_refl i)]) (by rw [List.drop_set_of_lt (by omega)]; exact hdrop)
   refine ⟨i', l', ?_, q2, q3, q4⟩;rw [← q1];refine qh1 ?_
   rw [hstep];simp only [hl, ltI hj', cond_true, qpZ hj', Int.toNat_natCast, hx, Option.bind_some, hb, Bool.not_false, qpZ (show i < all.length by omega), List.getElem?_eq_getElem hil, qb8 (n := i) (by omega), qb8 (n := j) (by omega)]
  | false =>
   have hb : decide (all[j].2.1<=base) = true := by
    unfold qp9 at hkp;have := of_decide_eq_false hkp;exact decide_eq_true (by omega)
   obtain ⟨i', l', q1, q2, q3, q4⟩ := ih (j + 1) i l (by omega) hj' (by omega) hl (by rw [hfil, hkp, ht]; simp) hdrop;refine ⟨i', l', ?_, q2, q3, q4⟩;rw [← q1];refine qh1 ?_
   rw [hstep];simp only [hl, ltI hj', cond_true, qpZ hj', Int.toNat_natCast, hx, Option.bind_some, hb, Bool.not_true, cond_false, qb8 (n := j) (by omega)]
noncomputable def zk1 (base : Int) (all : List qb4) (K : List qb4->ρ) : List qb4->Unit->Unit ⊕ ρ
 | [], _ => .inl ()
 | f :: l, _ => if qp9 base f then zk1 base all K l () else .inr (K (all.filter (qp9 base)))
theorem qvP (base : Int) (all : List qb4) (K : List qb4->ρ) : ∀ (l pre : List qb4), all = pre ++ l->(∀ f ∈ pre, qp9 base f = true)->eX (fun _ => some (K all)) (zk1 base all K l ()) = some (K (all.filter (qp9 base)))
 | [], pre, ha, hp => by
  have : all.filter (qp9 base) = all := List.filter_eq_self.2 (by rw [ha]; simpa using hp);rw [this]; rfl
 | f :: l, pre, ha, hp => by
  unfold zk1;by_cases h : qp9 base f = true
  ·rw [if_pos h]
   exact qvP base all K l (pre ++ [f]) (by simp [ha]) (by simpa [or_imp, forall_and, h] using hp)
  ·rw [if_neg h]; rfl
theorem delT_eq (base : Int) (all : List qb4) (K : List qb4->ρ) (hn : all.length < 1000000000) : delT base all K = some (K (all.filter (qp9 base))) := by
 unfold delT;rw [qf4 all (fun i (_ : Unit) => ((i : Int), ())) (zk1 base all K) (fun i _ => ∀ f ∈ all.take i, qp9 base f = true) (b := ()) ?_ ?_ (by simp) (by rfl)]
 ·rw [Option.bind_some]
  exact qvP base all K all [] rfl (by simp)
 ·intro _ _
  simp only [qxW, cond_false];rfl
 ·intro i _ hi hpre
  simp only [ltI hi, cond_true, qpZ hi, Int.toNat_natCast, List.getElem?_eq_getElem hi, Option.bind_some];rw [qp7 hi];cases hkp : qp9 base all[i] with
  | true =>
   left
   have hb : decide (all[i].2.1<=base) = false := by
    unfold qp9 at hkp;have := of_decide_eq_true hkp;exact decide_eq_false (by omega)
   refine ⟨(), ?_, ?_, ?_⟩
   ·rw [hb]; simp only [cond_false, qb8 (n := i) (by omega)]
   ·rw [List.take_succ_eq_append_getElem hi]
    intro f hf;rcases List.mem_append.1 hf with h | h
    ·exact hpre f h
    ·rw [List.mem_singleton] at h; rw [h]; exact hkp
   ·conv => lhs; unfold zk1
    rw [if_pos hkp]
  | false =>
   right
   have hb : decide (all[i].2.1<=base) = true := by
    unfold qp9 at hkp;have := of_decide_eq_false hkp;exact decide_eq_true (by omega)
   have hfil : (all.take (i + 1)).filter (qp9 base) = all.take i := by
    rw [List.take_succ_eq_append_getElem hi, List.filter_append, List.filter_eq_self.2 hpre];simp [List.filter_cons, hkp]
   obtain ⟨i', l', q1, q2, q3, q4⟩ := zz3 base all hn rfl _ (i + 1) i all rfl (by omega) (by omega) rfl hfil.symm rfl;rw [hb, show ((i : Int) == -1) = false by rw [beq_eq_false_iff_ne]; omega, qb8 (n := i) (by omega)];simp only [cond_true, cond_false];rw [q1];simp only [Option.bind_some, Int.toNat_natCast, q2];have e1 : qoP (i' : Int) (all.length : Int) all.length = true := by unfold qoP; exact decide_eq_true ⟨by omega, by omega, by omega⟩
   have e2 : Nat.ble (i' + (all.length - i')) all.length = true := by rw [Nat.ble_eq]; omega
   have hlen : (l'.take i').length = i' := by rw [List.length_take, q2]; omega
   rw [e1, e2];simp only [cond_true]
   have e3 : qoP 0 (i' : Int) ((l'.take i' ++ List.replicate (all.length - i') ((0 : Int), ((0 : Int), ((0 : Int), (((0 : Int), ((0 : Int), ((0 : Int), ((0 : Int), ((0 : Int), ((0 : Int), ())))))), ())))) ++ l'.drop (i' + (all.length - i'))).length) = true := by
    unfold qoP; refine decide_eq_true ⟨by omega, by omega, ?_⟩;rw [List.length_append, List.length_append, hlen]; omega
   rw [e3];simp only [cond_true, List.drop_zero, Nat.sub_zero];rw [List.append_assoc, List.take_append_of_le_length (by rw [hlen]; exact Nat.le_refl _), List.take_of_length_le (by rw [hlen]; exact Nat.le_refl _), q4];unfold zk1;rw [hkp];rfl
end
end Go.AI
