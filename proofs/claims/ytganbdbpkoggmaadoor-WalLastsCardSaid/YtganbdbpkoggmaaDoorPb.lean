/- The plain law, a part of it. No condition. -/
import Derived.Test.YtganbdbpkoggmaaDoorPa
set_option linter.unusedVariables false
set_option linter.unusedSimpArgs false
namespace Go.AI
open IntKind
abbrev qe0:Type:=Int×(List qb4×(Bool×Unit))
def qnA (l:List Int):List Nat:=l.map Int.toNat
def BytD (d:qa3):Prop:=∀ f∈d.1,∀ x∈f.2.1,0<=x/\x<256
theorem qyL {l:List Int} (h:∀ x∈l,0<=x/\x<256):qd8 (qnA l)=l:=by
 induction l with
 | nil=>rfl
 | cons x l ih =>
  have h1:=h x (by simp);rw [qnA,List.map_cons,quW];rw [show qd8 (List.map Int.toNat l)=l from ih fun y hy=>h y (by simp [hy])]
  congr 1; omega
theorem qnB (l:List Nat):qnA (qd8 l)=l:=by
 induction l with
 | nil=>rfl
 | cons x l ih=>rw [quW,qnA,List.map_cons,show List.map Int.toNat (qd8 l)=l from ih]; rfl
theorem qqA {l:List Int} (h:∀ x∈l,0<=x/\x<256):byt (qnA l):=by
 intro x hx;obtain ⟨y,hy,rfl⟩:=List.mem_map.1 hx;have:=h y hy;omega
noncomputable def qdB (d:qa3) (n:Int):List Nat:=qnA (qmO d (qc3 n)).1
theorem qvQ {d:qa3} (h:BytD d) (n:ByteArray):∀ x∈(qmO d n).1,0<=x/\x<256:=by
 unfold qmO;split
 ·intro x hx; cases hx
 ·split
  ·intro x hx; cases hx
  ·rename_i f hf; exact h f (qi0 hf)
theorem zz4 {d:qa3} (h:RightD d) (n:ByteArray):(qmO d n).1.length<=65536:=by
 unfold qmO;split
 ·simp
 ·split
  ·simp
  ·rename_i f hf; exact h.size (qi0 hf)
noncomputable def qd4 (d:qa3) (n ep:Int):qe0:=(n,(qm8 ((qdB d n).take 576) n ep,(decide (72*(qm8 ((qdB d n).take 576) n ep).length<(qdB d n).length),())))
noncomputable def qo3 (d:qa3):List Int->List qe0->Int->Int->List qe0×(List Int×Unit)
 | [],out,_,_=>(out,([],()))
 | n::l,out,next,ep=>match out.getLast? with
  | some p=>if n≠next\/p.2.2.1=true then (out,(n::l,())) else
    if h:(qd4 d n ep).2.1=[] then (out++[qd4 d n ep],(l,())) else qo3 d l (out++[qd4 d n ep]) (n+((qd4 d n ep).2.1.length:Int)) ((qd4 d n ep).2.1.getLast h).1
  | none=>if h:(qd4 d n ep).2.1=[] then (out++[qd4 d n ep],(l,())) else qo3 d l (out++[qd4 d n ep]) (n+((qd4 d n ep).2.1.length:Int)) ((qd4 d n ep).2.1.getLast h).1
noncomputable def qyM (d:qa3):List Int->(List qe0×(Int×Int))->(List qe0×Unit) ⊕ (List qe0×(List Int×Unit))
 | [],b=>.inl (b.1,())
 | n::l,b=>if b.1≠[]/\(n≠b.2.1\/∃ p,b.1.getLast?=some p/\p.2.2.1=true) then .inr (b.1,(n::l,())) else
   if h:(qd4 d n b.2.2).2.1=[] then .inr (b.1++[qd4 d n b.2.2],(l,())) else qyM d l (b.1++[qd4 d n b.2.2],(n+((qd4 d n b.2.2).2.1.length:Int),((qd4 d n b.2.2).2.1.getLast h).1))
theorem qnC (d:qa3):∀ (l:List Int) (b:List qe0×(Int×Int)),eX (fun v:List qe0×Unit=>some (v.1,(([]:List Int),()))) (qyM d l b)=some (qo3 d l b.1 b.2.1 b.2.2)
 | [],b=>rfl
 | n::l,b=>by
  unfold qyM qo3;cases hl:b.1.getLast? with
  | none =>
   have hb:b.1=[]:=List.getLast?_eq_none_iff.1 hl
   rw [if_neg (by simp [hb])];simp only;split
   ·rfl
   ·exact qnC d l _
  | some p =>
   have hb:b.1≠[]:=fun e=>by rw [e] at hl; cases hl
   simp only [Option.some.injEq,exists_eq_left'];by_cases h:n≠b.2.1\/p.2.2.1=true
   ·rw [if_pos ⟨hb,h⟩,if_pos h]; rfl
   ·rw [if_neg (fun c=>h c.2),if_neg h]
    split
    ·rfl
    ·exact qnC d l _
theorem zz5 {bs:List Nat} (hb:byt bs) (lsn ep:Int):(qm8 bs lsn ep).length<=bs.length:=by
 have:=zd6 hb lsn ep;omega
theorem scan_lsn {bs:List Nat} (hb:byt bs) (lsn ep:Int) (h:qm8 bs lsn ep≠[]):lsn+(qm8 bs lsn ep).length<=1000000001/\1<=lsn:=by
 have hr:=qvK hb lsn ep;generalize qm8 bs lsn ep=l at hr h
 have:∀ (l:List qb4) (lsn ep:Int),qu4 l lsn ep=true->l≠[]->lsn+(l.length:Int)<=1000000001/\1<=lsn:=by
  intro l
  induction l with
  | nil=>intro _ _ _ h; exact absurd rfl h
  | cons f l ih =>
   intro lsn ep hr _;simp only [qu4,Bool.and_eq_true] at hr;obtain ⟨h1,h2⟩:=zd5 hr.1;have hf:=qmT hr.1
   have hb:1<=f.2.1/\f.2.1<=1000000000:=by
    unfold qbE at hf;simp only [Bool.and_eq_true,decide_eq_true_eq] at hf;omega
   by_cases hl:l=[]
   ·subst hl; simp only [List.length_cons,List.length_nil]; omega
   ·have:=ih (f.2.1+1) f.1 hr.2 hl
    simp only [List.length_cons]; omega
 exact this l lsn ep hr h
theorem wal_read {d:qa3} (hd:DkW d) (hb:BytD d):qcY (d,())=some (qo3 d (qg9 d) [] 0 1):=by
 unfold qcY;rw [qq7 d hd.names];simp only [Option.bind_some]
 have hsl:(qg9 d).length<=64:=by
  unfold qg9;cases hr:qq1 d with
  | false=>simp
  | true =>
   simp only [cond_true];rw [qhP,List.nil_append];exact Nat.le_trans (List.length_filter_le _ _) (by rw [List.length_map]; exact qdA hr)
 rw [qf4 (qg9 d) (fun i (b:List qe0×(Int×Int))=>(b.1,(b.2.1,(b.2.2,((i:Int),()))))) (qyM d) (fun i b=>b.1.length=i) (b:=([],(0,1))) ?_ ?_ rfl (by rfl)]
 ·rw [Option.bind_some,qnC]
 ·intro b _
  simp only [qxW,cond_false];rfl
 ·intro i b hi hI
  simp only [ltI hi,cond_true,qj1 hi,Option.bind_some]
  have hsub:qp0 (qg9 d) (i:Int) ((qg9 d).length:Int)=some ((qg9 d).drop i):=by
   rw [qt5 (qg9 d) (by omega) (Nat.le_refl _),List.take_length]
  have hsub2:qp0 (qg9 d) (IntKind.wrap .i64 ((i:Int)+1)) ((qg9 d).length:Int)=some ((qg9 d).drop (i+1)):=by
   rw [qb8 (by omega),qt5 (qg9 d) (by omega) (Nat.le_refl _),List.take_length]
  rw [hsub,hsub2,qp7 hi];generalize (qg9 d)[i]=n;generalize hrest:(qg9 d).drop (i+1)=rest
  -- does it go on?
  have hgo:(bif (decide ((i:Int) > 0)) then (
    bif (n != b.2.1) then some true
    else bif (inI (IntKind.wrap .i64 ((i:Int)-1)) b.1.length) then (b.1[(Int.toNat (IntKind.wrap .i64 ((i:Int)-1)))]?).bind (fun (v4:qe0) =>
     some v4.2.2.1)
    else none).bind (fun (v5:Bool) =>
    some v5)
   else some false)=some (decide (b.1≠[]/\(n≠b.2.1\/∃ p,b.1.getLast? = some p/\p.2.2.1=true))):=by
   by_cases hi0:i=0
   ·subst hi0
    have:b.1=[]:=List.eq_nil_of_length_eq_zero hI;rw [show decide (((0:Nat):Int) > 0)=false from rfl];simp [this]
   ·have hne:b.1≠[]:=fun e=>hi0 (by rw [<-hI,e]; rfl)
    rw [show decide ((i:Int) > 0)=true from decide_eq_true (by omega),qa4 (by omega) (by omega)];simp only [cond_true];by_cases hn:n=b.2.1
    ·rw [show (n != b.2.1)=false by simpa using hn]
     have hii:((i:Int)-1)=((i-1:Nat):Int):=by omega
     have hlt:i-1<b.1.length:=by omega
     have hgl:b.1.getLast?=some b.1[i-1]:=by
      rw [List.getLast?_eq_getElem?,hI,List.getElem?_eq_getElem hlt]
     simp only [cond_false,hii,qpZ hlt,Int.toNat_natCast,List.getElem?_eq_getElem hlt,Option.bind_some,cond_true,hgl,Option.some.injEq,exists_eq_left'];simp [hne,hn]
    ·rw [show (n != b.2.1)=true by simpa using hn]
     simp [hne,hn]
  rw [hgo];simp only [Option.bind_some];by_cases hst:b.1≠[]/\(n≠b.2.1\/∃ p,b.1.getLast? = some p/\p.2.2.1=true)
  ·right
   rw [decide_eq_true hst];simp only [cond_true];unfold qyM;rw [if_pos hst];rfl
  ·rw [decide_eq_false hst]
   have hby:=qvQ hb (qc3 n);have hdl:=zz4 hd.right (qc3 n);have hin:qd8 (qdB d n)=(qmO d (qc3 n)).1:=qyL hby;have hsb:byt (qdB d n):=qqA hby;have hsbl:(qdB d n).length=(qmO d (qc3 n)).1.length:=by unfold qdB qnA; rw [List.length_map]
   simp only [cond_false,qm5,Option.bind_some,zw8 hd.names (qcG n),<-hin,qb0]
   have hmin:(if (false=true) then (if (576 > ((qdB d n).length:Int)) then (576:Int) else ((qdB d n).length:Int)) else (if (576<((qdB d n).length:Int)) then 576 else ((qdB d n).length:Int)))=((min 576 (qdB d n).length:Nat):Int):=by
    rw [if_neg (by simp)];split<;>omega
   have htk:(qdB d n).take (min 576 (qdB d n).length)=(qdB d n).take 576:=by
    rcases Nat.le_total 576 (qdB d n).length with h | h
    ·rw [Nat.min_eq_left h]
    ·rw [Nat.min_eq_right h,List.take_length,List.take_of_length_le h]
   have hbt:=qr0 576 hsb;rw [hmin,qjU _ _ (Nat.min_le_right _ _),htk];simp only [Option.bind_some];rw [zy7 hbt (by rw [List.length_take]; omega)];have hsc:=zz5 hbt n b.2.2;rw [List.length_take] at hsc;simp only [Option.bind_some];rw [ql7 (by simp [hI]; omega) (by simp [hI,maxLen]; omega)];simp only [Option.bind_some]
   have hpc:(n,(qm8 ((qdB d n).take 576) n b.2.2,(decide (((72*(qm8 ((qdB d n).take 576) n b.2.2).length:Nat):Int)<((qdB d n).length:Int)),())))=qd4 d n b.2.2:=by
    unfold qd4;simp only [Prod.mk.injEq,true_and,and_true];exact decide_eq_decide.2 (by omega)
   rw [hpc];by_cases he:(qd4 d n b.2.2).2.1=[]
   ·right
    have:qm8 ((qdB d n).take 576) n b.2.2=[]:=he;rw [this];unfold qyM;rw [if_neg hst,dif_pos he];rfl
   ·left
    have he':qm8 ((qdB d n).take 576) n b.2.2≠[]:=he;have hpos:=List.length_pos_iff.2 he';obtain ⟨l1,l2⟩:=scan_lsn hbt n b.2.2 he';refine ⟨(b.1++[qd4 d n b.2.2],(n+((qd4 d n b.2.2).2.1.length:Int),((qd4 d n b.2.2).2.1.getLast he).1)),?_,by simp [hI],?_⟩
    ·rw [show (((qm8 ((qdB d n).take 576) n b.2.2).length:Int)==0)=false by rw [beq_eq_false_iff_ne]; omega]
     simp only [cond_false];rw [qa4 (n:=((qm8 ((qdB d n).take 576) n b.2.2).length:Int)-1) (by omega) (by omega),show ((qm8 ((qdB d n).take 576) n b.2.2).length:Int)-1=(((qm8 ((qdB d n).take 576) n b.2.2).length-1:Nat):Int) by omega,qj1 (by omega)];simp only [Option.bind_some];rw [qa4 (n:=n+_) (by omega) (by omega),qb8 (n:=i) (by omega)]
     have:(qm8 ((qdB d n).take 576) n b.2.2)[(qm8 ((qdB d n).take 576) n b.2.2).length-1]'(by omega)=(qd4 d n b.2.2).2.1.getLast he:=by
      rw [List.getLast_eq_getElem];rfl
     rw [this];rfl
    ·conv=>lhs; unfold qyM
     rw [if_neg hst,dif_neg he]
open IntKind
theorem qvR (d:qa3):∀ (l:List Int) (out:List qe0) (next ep:Int),∀ p∈(qo3 d l out next ep).1,p∈out\/∃ n ep,p=qd4 d n ep
 | [],out,next,ep,p,hp=>.inl hp
 | n::l,out,next,ep,p,hp=>by
  have go:∀ {next' ep'},p∈(qo3 d l (out++[qd4 d n ep]) next' ep').1->p∈out\/∃ n ep,p=qd4 d n ep:=by
   intro next' ep' h;rcases qvR d l _ _ _ p h with h | h
   ·rcases List.mem_append.1 h with h | h
    ·exact .inl h
    ·exact .inr ⟨n,ep,List.mem_singleton.1 h⟩
   ·exact .inr h
  have one:p∈out++[qd4 d n ep]->p∈out\/∃ n ep,p=qd4 d n ep:=by
   intro h;rcases List.mem_append.1 h with h | h
   ·exact .inl h
   ·exact .inr ⟨n,ep,List.mem_singleton.1 h⟩
  unfold qo3 at hp;split at hp
  ·split at hp
   ·exact .inl hp
   ·split at hp
    ·exact one hp
    ·exact go hp
  ·split at hp
   ·exact one hp
   ·exact go hp
theorem qvS (d:qa3):∀ (l:List Int) (out:List qe0) (next ep:Int),(qo3 d l out next ep).1.length<=out.length+l.length/\(qo3 d l out next ep).2.1.length<=l.length
 | [],out,next,ep=>⟨Nat.le_refl _,Nat.le_refl _⟩
 | n::l,out,next,ep=>by
  have go:∀ next' ep',(qo3 d l (out++[qd4 d n ep]) next' ep').1.length<=out.length+(n::l).length/\(qo3 d l (out++[qd4 d n ep]) next' ep').2.1.length<=(n::l).length:=by
   intro next' ep';obtain ⟨h1,h2⟩:=qvS d l (out++[qd4 d n ep]) next' ep';simp only [List.length_append,List.length_cons,List.length_nil] at h1 ⊢;omega
  unfold qo3;split
  ·split
   ·simp only [List.length_cons]; omega
   ·split
    ·simp only [List.length_append,List.length_cons,List.length_nil]; omega
    ·exact go _ _
  ·split
   ·simp only [List.length_append,List.length_cons,List.length_nil]; omega
   ·exact go _ _
theorem zz6 {d:qa3} (hb:BytD d) (n ep:Int):(qd4 d n ep).2.1.length<=8/\∀ f∈(qd4 d n ep).2.1,qbE f=true:=by
 have hbt:=qr0 576 (qqA (qvQ hb (qc3 n)));have:=zd6 hbt n ep;rw [List.length_take] at this;exact ⟨by show (qm8 _ _ _).length<=8; unfold qdB; omega,qjV (qvK hbt n ep)⟩
def qa9 (l:List qe0):List qb4:=l.flatMap fun p=>p.2.1
def w0:qn5:=(0,(0,(0,(0,(0,([],()))))))
def qnU (all:List qb4) (base:Int):Bool:=match all.getLast? with
 | none=>true
 | some f=>decide (f.2.1<base)
def qv3 (all:List qb4) (base:Int):Int:=match all.getLast? with
 | none=>1
 | some f=>if f.2.1<base then 1 else f.1+1
noncomputable def qjC (m:qa3×Int) (l:List qe0):(qa3×Int)×List qe0:=match l.getLast? with
 | none=>(m,l)
 | some p=>if p.2.1=[] then (qpW m [p.1],l.dropLast) else if p.2.2.1=true/\m.2=0 then (((cutD m.1 (qc3 p.1) ((p.2.1.length:Int)*72)).1,(cutD m.1 (qc3 p.1) ((p.2.1.length:Int)*72)).2.1),l) else (m,l)
abbrev qeZ:Type:=qn5×(qa3×(List qb4×(Int×Unit)))
noncomputable def qjD (base:Int) (all:List qb4) (m:qa3×Int) (l:List qe0):qeZ :=
 if qnU all base=true then (if (qpW m (qg9 m.1)).2≠0 then (w0,((qpW m (qg9 m.1)).1,([],((qpW m (qg9 m.1)).2,())))) else ((qv3 all base,(base+1,(base,(0,(0,([],())))))),((qpW m (qg9 m.1)).1,([],(0,())))))
 else if m.2≠0 then (w0,(m.1,([],(m.2,())))) else match all.getLast?,l.getLast? with
  | some f,some p=>((qv3 all base,(f.2.1+1,(f.2.1,(p.1,((p.2.1.length:Int),([],())))))),(m.1,(all.filter (qp9 base),(0,()))))
  | _,_=>(w0,(m.1,([],(0,()))))
def gapB (l:List qe0) (base:Int):Bool:=match l.head? with
 | some p=>decide (base+1<p.1)
 | none=>false
noncomputable def openL (d:qa3) (base:Int) (l:List qe0) (behind:List Int):qeZ :=
 if gapB l base=true then (w0,(d,([],(11,()))))
 else if 1000000<qv3 (qa9 l) base then (w0,(d,([],(3,()))))
 else qjD base (qa9 l) (qjC (qpW (d,0) behind) l).1 (qjC (qpW (d,0) behind) l).2
noncomputable def qyN (d:qa3) (base:Int):qeZ :=
 if qq1 d=false\/base<0\/1000000000<=base then (w0,(d,([],(1,()))))
 else if d.2.2.2.1=true then (w0,(d,([],(9,()))))
 else openL d base (qo3 d (qg9 d) [] 0 1).1 (qo3 d (qg9 d) [] 0 1).2.1
theorem qnD {α:Type} {l:List α} (h:l≠[]) (hl:l.length<1000000000):IntKind.wrap .i64 ((l.length:Int)-1)=((l.length-1:Nat):Int):=by
 have:=List.length_pos_iff.2 h;rw [qa4 (by omega) (by omega)]; omega
theorem qrY {α β:Type} {l:List α} (h:l≠[]) (hl:l.length<1000000000) (K:α->Option β):(bif (inI (IntKind.wrap .i64 ((l.length:Int)-1)) l.length) then (l[(Int.toNat (IntKind.wrap .i64 ((l.length:Int)-1)))]?).bind K else none)=K (l.getLast h):=by
 have hp:=List.length_pos_iff.2 h;rw [qnD h hl,qpZ (by omega),Int.toNat_natCast,List.getElem?_eq_getElem (by omega),cond_true,Option.bind_some,List.getLast_eq_getElem]
theorem qnE {α:Type} {l:List α} (h:l≠[]) (hl:l.length<1000000000):qj3 l (IntKind.wrap .i64 ((l.length:Int)-1))=some (l.getLast h):=by
 have hp:=List.length_pos_iff.2 h;rw [qnD h hl,qj1 (by omega),List.getLast_eq_getElem]
theorem qvT (d:qa3):(qg9 d).length<=64:=by
 unfold qg9;cases hr:qq1 d with
 | false=>simp
 | true =>
  simp only [cond_true];rw [qhP,List.nil_append];exact Nat.le_trans (List.length_filter_le _ _) (by rw [List.length_map]; exact qdA hr)
theorem zaY {α:Type} (l:List α):((l.length:Int)==0)=decide (l=[]):=by
 cases l with
 | nil=>rfl
 | cons a l=>rw [beq_eq_false_iff_ne.2 (by simp; omega)]; simp
theorem qnF {m:qa3×Int} (hm:DkW m.1) {base ep:Int} {all:List qb4} {l:List qe0} (h0:0<=base/\base<1000000000) (hn:qnU all base=true) (hep:ep=qv3 all base) :
  (((qd3 (m.1,()))).bind (fun (v16:(List Int)) =>
      ((qb3 ((m.1,(m.2,())),(v16,())))).bind (fun (v17:qa3×(Int×Unit)) =>
      bif (v17.2.1 != 0) then some (((0,(0,(0,(0,(0,([],())))))),(v17.1,([],v17.2))):qeZ)
      else (
       qb9 (fun (v18:(Int×Unit)) =>
       bif (decide (v18.1<0)) then none
       else (some (.inl ())).map .inr) (0,())).bind (eX (fun (v19:Unit) =>
       some ((ep,((IntKind.wrap .i64 (base+1)),(base,((0:Int),((0:Int),(([]:List qb4),())))))),(v17.1,([],(0,())))))))))=some (qjD base all m l):=by
 rw [qq7 _ hm.names,Option.bind_some,qhQ hm _ _ (Nat.le_trans (qvT _) (by omega)),Option.bind_some];unfold qjD;rw [if_pos hn];by_cases he:(qpW m (qg9 m.1)).2=0
 ·have he':(qpW (m.1,m.2) (qg9 m.1)).2=0:=he
  rw [if_neg (by simpa using he),show ((qpW (m.1,m.2) (qg9 m.1)).2 != 0)=false by simpa using he'];simp only [cond_false];rw [qg2 (e:=.inl ()) (by rfl),qa4 (by omega) (by omega),hep];rfl
 ·have he':¬ (qpW (m.1,m.2) (qg9 m.1)).2=0:=he
  rw [if_pos he,show ((qpW (m.1,m.2) (qg9 m.1)).2 != 0)=true by simpa using he'];rfl
theorem zz7 {f:qb4} (h:qbE f=true):1<=f.1/\f.1<=1000000/\1<=f.2.1/\f.2.1<=1000000000:=by
 unfold qbE at h;simp only [Bool.and_eq_true,decide_eq_true_eq] at h;omega
open IntKind
theorem qvU {m:qa3×Int} {base ep:Int} {all:List qb4} {l:List qe0} (hn:qnU all base=false) (hl:l≠[]) (hll:l.length<1000000) (hal:all.length<1000000) (hf:∀ f∈all,qbE f=true) (hep:ep=qv3 all base) :
  ((qj3 l (IntKind.wrap .i64 ((l.length:Int)-1)))).bind (fun (p:qe0) =>
   bif (inI (IntKind.wrap .i64 ((all.length:Int)-1)) all.length) then (all[(Int.toNat (IntKind.wrap .i64 ((all.length:Int)-1)))]?).bind (fun (f:qb4) =>
    bif (m.2 != 0) then some (((0,(0,(0,(0,(0,([],())))))),(m.1,([],(m.2,())))):qeZ)
    else delT base all (fun r=>(((ep,((IntKind.wrap .i64 (f.2.1+1)),(f.2.1,(p.1,((p.2.1.length:Int),(([]:List qb4),())))))),(m.1,(r,((0:Int),())))):qeZ)))
   else none)=some (qjD base all m l):=by
 have hne:all≠[]:=by
  intro e; subst e; cases hn
 rw [qnE hl (by omega),Option.bind_some,qrY hne (by omega)];have h1:all.getLast?=some (all.getLast hne):=List.getLast?_eq_some_getLast hne
 have h2:l.getLast? = some (l.getLast hl):=List.getLast?_eq_some_getLast hl
 have hfb:=zz7 (hf _ (List.getLast_mem hne));unfold qjD;rw [if_neg (by rw [hn]; simp),h1,h2];by_cases he:m.2=0
 ·rw [if_neg (by simpa using he),show (m.2 != 0)=false by simpa using he,cond_false,delT_eq _ _ _ (by omega),qa4 (by omega) (by omega),hep]
 ·rw [if_pos he,show (m.2 != 0)=true by simpa using he]
  rfl
theorem zaZ {α:Type} (l:List α) (k:Nat) (h:k<=l.length):qp0 l 0 (k:Int)=some (l.take k):=by
 have:=qt5 l (Nat.zero_le k) h;simpa using this
theorem qcH (p:qe0) (l:List qe0):qa9 (p::l)=p.2.1++qa9 l:=rfl
theorem qnG {l:List qe0} (h:∀ p∈l,p.2.1.length<=8):(qa9 l).length<=8*l.length:=by
 induction l with
 | nil=>simp [qa9]
 | cons p l ih =>
  have h1:=h p (by simp);have h2:=ih fun q hq=>h q (by simp [hq])
  rw [qcH,List.length_append,List.length_cons]; omega
theorem qyO {l:List qe0} (hl:l.length<=1000) (h:∀ p∈l,p.2.1.length<=8) :
  qb9 (fun (v5:((List qb4)×(Int×Unit))) =>
   bif (decide (v5.2.1<(l.length:Int))) then ((qj3 l v5.2.1)).bind (fun (v6:qe0) =>
    ((qn7 v5.1 v6.2.1 72)).bind (fun (v7:(List qb4)) =>
    some (.inl (v7,((IntKind.wrap .i64 (v5.2.1+1)),())))))
   else (some (v5.1,())).map .inr) ([],(0,()))=some (qa9 l,()):=by
 rw [qf4 l (fun i (b:List qb4)=>(b,((i:Int),()))) (fun l b=>(b++qa9 l,())) (fun i b=>b.length<=8*i) (b:=[]) ?_ ?_ (by simp) (by rfl)]
 ·rfl
 ·intro b _
  simp only [qxW,cond_false];rw [qa9,List.flatMap_nil,List.append_nil];rfl
 ·intro i b hi hI
  left;have h8:=h l[i] (List.getElem_mem hi);refine ⟨b++l[i].2.1,?_,by rw [List.length_append]; omega,?_⟩
  ·simp only [ltI hi,cond_true,qj1 hi,Option.bind_some]
   rw [ql7 (by omega) (by unfold maxLen; omega)];simp only [Option.bind_some,qb8 (n:=i) (by omega)]
  ·rw [qp7 hi,qcH,List.append_assoc]
theorem endM_ok {m:qa3×Int} (h:DkW m.1) (l:List qe0):DkW (qjC m l).1.1:=by
 unfold qjC;split
 ·exact h
 ·split
  ·exact qyJ h _
  ·split
   ·exact h.cut _ _
   ·exact h
theorem zz8 {d:qa3} (hd:DkW d) {base:Int} (h0:0<=base/\base<1000000000) {l:List qe0} {behind:List Int} (hl:l.length<=64) (hbl:behind.length<=64) (hp:∀ p∈l,p.2.1.length<=8/\∀ f∈p.2.1,qbE f=true) {ep:Int} {nn:Bool} (hn:qnU (qa9 l) base=nn) (hep:ep=qv3 (qa9 l) base) :
  ((qb3 ((d,(0,())),(behind,())))).bind (fun (v15:qa3×(Int×Unit)) =>
    bif ((l.length:Int)==0) then bif nn then ((qd3 (v15.1,()))).bind (fun (v16:(List Int)) =>
      ((qb3 (v15,(v16,())))).bind (fun (v17:qa3×(Int×Unit)) =>
      bif (v17.2.1 != 0) then some (((0,(0,(0,(0,(0,([],())))))),(v17.1,([],v17.2))):qeZ)
      else (
       qb9 (fun (v18:(Int×Unit)) =>
       bif (decide (v18.1<0)) then none
       else (some (.inl ())).map .inr) (0,())).bind (eX (fun (v19:Unit) =>
       some ((ep,((IntKind.wrap .i64 (base+1)),(base,((0:Int),((0:Int),(([]:List qb4),())))))),(v17.1,([],(0,()))))))))
     else ((qj3 l (IntKind.wrap .i64 ((l.length:Int)-1)))).bind (fun (v20:qe0) =>
     bif (inI (IntKind.wrap .i64 (((qa9 l).length:Int)-1)) (qa9 l).length) then ((qa9 l)[(Int.toNat (IntKind.wrap .i64 (((qa9 l).length:Int)-1)))]?).bind (fun (v21:qb4) =>
      bif (v15.2.1 != 0) then some (((0,(0,(0,(0,(0,([],())))))),(v15.1,([],v15.2))):qeZ)
      else delT base (qa9 l) (fun r=>(((ep,((IntKind.wrap .i64 (v21.2.1+1)),(v21.2.1,(v20.1,((v20.2.1.length:Int),(([]:List qb4),())))))),(v15.1,(r,((0:Int),())))):qeZ)))
     else none)
    else ((qj3 l (IntKind.wrap .i64 ((l.length:Int)-1)))).bind (fun (v30:qe0) =>
     bif ((v30.2.1.length:Int)==0) then ((qb3 (v15,((v30.1::[]),())))).bind (fun (v31:qa3×(Int×Unit)) =>
      ((qp0 l 0 (IntKind.wrap .i64 ((l.length:Int)-1)))).bind (fun (v32:(List qe0)) =>
      bif nn then ((qd3 (v31.1,()))).bind (fun (v33:(List Int)) =>
       ((qb3 (v31,(v33,())))).bind (fun (v34:qa3×(Int×Unit)) =>
        bif (v34.2.1 != 0) then some (((0,(0,(0,(0,(0,([],())))))),(v34.1,([],v34.2))):qeZ)
        else (
        qb9 (fun (v35:(Int×Unit)) =>
         bif (decide (v35.1<0)) then none
         else (some (.inl ())).map .inr) (0,())).bind (eX (fun (v36:Unit) =>
        some ((ep,((IntKind.wrap .i64 (base+1)),(base,((0:Int),((0:Int),(([]:List qb4),())))))),(v34.1,([],(0,()))))))))
      else ((qj3 v32 (IntKind.wrap .i64 ((v32.length:Int)-1)))).bind (fun (v37:qe0) =>
       bif (inI (IntKind.wrap .i64 (((qa9 l).length:Int)-1)) (qa9 l).length) then ((qa9 l)[(Int.toNat (IntKind.wrap .i64 (((qa9 l).length:Int)-1)))]?).bind (fun (v38:qb4) =>
        bif (v31.2.1 != 0) then some (((0,(0,(0,(0,(0,([],())))))),(v31.1,([],v31.2))):qeZ)
        else delT base (qa9 l) (fun r=>(((ep,((IntKind.wrap .i64 (v38.2.1+1)),(v38.2.1,(v37.1,((v37.2.1.length:Int),(([]:List qb4),())))))),(v31.1,(r,((0:Int),())))):qeZ)))
       else none)))
     else (
     bif (v30.2.2.1&&(v15.2.1==0)) then ((qc6 (v30.1,()))).bind (fun (v47:ByteArray) =>
      ((qu2 (v15.1,(v47,((IntKind.wrap .i64 ((v30.2.1.length:Int)*72)),()))))).bind (fun (v48:qa3×(Int×Unit)) =>
       some (v48.1.1,(v48.1.2.1,(v48.1.2.2.1,(v48.1.2.2.2.1,v48.2))))))
     else some (v15.1.1,(v15.1.2.1,(v15.1.2.2.1,(v15.1.2.2.2.1,v15.2))))).bind (fun (v49:((List qb1)×(Int×(Int×(Bool×(Int×Unit)))))) =>
     bif nn then ((qd3 ((v49.1,(v49.2.1,(v49.2.2.1,(v49.2.2.2.1,())))),()))).bind (fun (v50:(List Int)) =>
      ((qb3 (((v49.1,(v49.2.1,(v49.2.2.1,(v49.2.2.2.1,())))),v49.2.2.2.2),(v50,())))).bind (fun (v51:qa3×(Int×Unit)) =>
       bif (v51.2.1 != 0) then some (((0,(0,(0,(0,(0,([],())))))),(v51.1,([],v51.2))):qeZ)
       else (
       qb9 (fun (v52:(Int×Unit)) =>
        bif (decide (v52.1<0)) then none
        else (some (.inl ())).map .inr) (0,())).bind (eX (fun (v53:Unit) =>
       some ((ep,((IntKind.wrap .i64 (base+1)),(base,((0:Int),((0:Int),(([]:List qb4),())))))),(v51.1,([],(0,()))))))))
     else ((qj3 l (IntKind.wrap .i64 ((l.length:Int)-1)))).bind (fun (v54:qe0) =>
      bif (inI (IntKind.wrap .i64 (((qa9 l).length:Int)-1)) (qa9 l).length) then ((qa9 l)[(Int.toNat (IntKind.wrap .i64 (((qa9 l).length:Int)-1)))]?).bind (fun (v55:qb4) =>
       bif (v49.2.2.2.2.1 != 0) then some (((0,(0,(0,(0,(0,([],())))))),((v49.1,(v49.2.1,(v49.2.2.1,(v49.2.2.2.1,())))),([],v49.2.2.2.2))):qeZ)
       else delT base (qa9 l) (fun r=>(((ep,((IntKind.wrap .i64 (v55.2.1+1)),(v55.2.1,(v54.1,((v54.2.1.length:Int),(([]:List qb4),())))))),((v49.1,(v49.2.1,(v49.2.2.1,(v49.2.2.2.1,())))),(r,((0:Int),())))):qeZ)))
      else none))))
 =some (qjD base (qa9 l) (qjC (qpW (d,0) behind) l).1 (qjC (qpW (d,0) behind) l).2):=by
 have hfl:=qnG fun p hp'=>(hp p hp').1
 have hff:∀ f∈qa9 l,qbE f=true:=by
  intro f hf;obtain ⟨p,hp',h⟩:=List.mem_flatMap.1 hf;exact (hp p hp').2 f h
 rw [qhQ hd 0 behind (by omega),Option.bind_some];have hm:=qyJ (s:=(d,0)) hd behind;generalize qpW (d,0) behind=m at hm;by_cases hl0:l=[]
 ·subst hl0
  have:nn=true:=by rw [<-hn]; rfl
  subst this;exact qnF hm h0 hn hep
 ·have hpos:=List.length_pos_iff.2 hl0
  rw [show ((l.length:Int)==0)=false by rw [beq_eq_false_iff_ne]; omega];simp only [cond_false];have hlast:l.getLast?=some (l.getLast hl0):=List.getLast?_eq_some_getLast hl0
  conv=>lhs; rw [qnE hl0 (by omega)]
  simp only [Option.bind_some];by_cases he:(l.getLast hl0).2.1=[]
  ·have hE:qjC m l=(qpW m [(l.getLast hl0).1],l.dropLast):=by unfold qjC; rw [hlast]; simp only; rw [if_pos he]
   rw [hE,he];simp only [List.length_nil,Int.ofNat_zero,beq_self_eq_true,cond_true,Int.natCast_zero];rw [qhQ (d:=m.1) hm m.2 _ (by simp),Option.bind_some,show (m.1,m.2)=m from rfl];have hm2:=qyJ hm [(l.getLast hl0).1]
   rw [qnD hl0 (by omega),show qp0 l 0 ((l.length-1:Nat):Int)=some l.dropLast by
    rw [List.dropLast_eq_take];exact zaZ l _ (by omega)]
   simp only [Option.bind_some];cases nn with
   | true=>exact qnF hm2 h0 hn hep
   | false =>
    simp only [cond_false];refine qvU hn ?_ (by rw [List.length_dropLast]; omega) (by omega) hff hep
    intro e
    have:qa9 l=[]:=by
     rw [<-List.dropLast_concat_getLast hl0,e,List.nil_append];simp [qa9,he]
    rw [this] at hn;cases hn
  ·have hl8:=(hp _ (List.getLast_mem hl0)).1
   have hlp:=List.length_pos_iff.2 he;rw [show (((l.getLast hl0).2.1.length:Int)==0)=false by rw [beq_eq_false_iff_ne]; omega];simp only [cond_false];rw [qa4 (n:=((l.getLast hl0).2.1.length:Int)*72) (by omega) (by omega)]
   have hE:∃ m',qjC m l=(m',l)/\DkW m'.1/\(bif ((l.getLast hl0).2.2.1&&(m.2==0)) then ((qc6 ((l.getLast hl0).1,()))).bind (fun (v47:ByteArray) =>
      ((qu2 (m.1,(v47,(((l.getLast hl0).2.1.length:Int)*72,()))))).bind (fun (v48:qa3×(Int×Unit)) =>
       some (v48.1.1,(v48.1.2.1,(v48.1.2.2.1,(v48.1.2.2.2.1,v48.2))))))
     else some (m.1.1,(m.1.2.1,(m.1.2.2.1,(m.1.2.2.2.1,(m.2,()))))))=some (m'.1.1,(m'.1.2.1,(m'.1.2.2.1,(m'.1.2.2.2.1,(m'.2,()))))):=by
    refine ⟨(qjC m l).1,?_,endM_ok hm l,?_⟩
    ·unfold qjC; rw [hlast]; simp only; rw [if_neg he]; split<;>rfl
    ·unfold qjC; rw [hlast]; simp only; rw [if_neg he]
     by_cases hc:(l.getLast hl0).2.2.1=true/\m.2=0
     ·rw [if_pos hc,hc.1,hc.2]
      simp only [beq_self_eq_true,Bool.and_self,cond_true,qm5,Option.bind_some];rw [disk_Cut hm.names (qcG _) hm.fuse];rfl
     ·rw [if_neg hc,show ((l.getLast hl0).2.2.1&&(m.2==0))=false by
       rw [Bool.and_eq_false_iff];rcases Classical.not_and_iff_not_or_not.1 hc with h | h
       ·exact .inl (by simpa using h)
       ·exact .inr (by simpa using h)]
      rfl
   obtain ⟨m',e1,hm',e2⟩:=hE;rw [e1,e2];simp only [Option.bind_some];cases nn with
   | true=>exact qnF hm' h0 hn hep
   | false =>
    simp only [cond_false];have:=qvU (m:=m') (l:=l) hn hl0 (by omega) (by omega) hff hep;rw [qnE hl0 (by omega),Option.bind_some] at this;exact this
theorem zbA {d:qa3} {base:Int} (hd:qv1 d.1) (hf:d.2.2.1<9223372036854775808) (hb:BytD d):qi3 (d,(base,()))=some (qyN d base):=by
 unfold qi3 qyN;simp only [qcZ d hd,Option.bind_some];cases hr:qq1 d with
 | false =>
  simp only [Bool.not_false,cond_true,Option.bind_some];rw [if_pos (.inl trivial)];rfl
 | true =>
  have hD:DkW d:=⟨(qi4 d).1 hr,hf⟩;simp only [Bool.not_true,cond_false];by_cases h1:base<0
  ·rw [decide_eq_true h1,if_pos (.inr (.inl h1))]
   rfl
  by_cases h2:1000000000<=base
  ·rw [decide_eq_false h1,if_pos (.inr (.inr h2)),show decide (base ≥ 1000000000)=true from decide_eq_true h2]
   rfl
  rw [decide_eq_false h1,if_neg (by simp; omega),show decide (base ≥ 1000000000)=false from decide_eq_false h2];simp only [cond_false,Option.bind_some];cases hdn:d.2.2.2.1 with
  | true=>rfl
  | false =>
   simp only [cond_false,Bool.false_eq_true,if_false,wal_read hD hb,Option.bind_some];have hm:=qvR d (qg9 d) [] 0 1;obtain ⟨hl1,hl2⟩:=qvS d (qg9 d) [] 0 1;have hsl:=qvT d;generalize qo3 d (qg9 d) [] 0 1=R at hm hl1 hl2;obtain ⟨l,behind,⟨⟩⟩:=R;simp only [List.length_nil,Nat.zero_add] at hm hl1 hl2 ⊢
   have hp:∀ p∈l,p.2.1.length<=8/\∀ f∈p.2.1,qbE f=true:=by
    intro p hp;rcases hm p hp with h | ⟨n,ep,rfl⟩
    ·cases h
    ·exact zz6 hb n ep
   have hfl:=qnG fun p hp'=>(hp p hp').1
   have hff:∀ f∈qa9 l,qbE f=true:=by
    intro f hf;obtain ⟨p,hp',h⟩:=List.mem_flatMap.1 hf;exact (hp p hp').2 f h
   rw [qyO (by omega) fun p hp'=>(hp p hp').1];simp only [Option.bind_some]
   have hnone:(bif (((qa9 l).length:Int)==0) then some true
    else bif (inI (IntKind.wrap .i64 (((qa9 l).length:Int)-1)) (qa9 l).length) then ((qa9 l)[(Int.toNat (IntKind.wrap .i64 (((qa9 l).length:Int)-1)))]?).bind (fun (v9:qb4) =>
     some (decide (v9.2.1<base)))
    else none)=some (qnU (qa9 l) base):=by
    by_cases he:qa9 l=[]
    ·rw [he]; rfl
    ·rw [zaY,decide_eq_false he,cond_false,qrY he (by omega)]
     unfold qnU;rw [List.getLast?_eq_some_getLast he]
   rw [hnone];simp only [Option.bind_some]
   have hw:(bif (!(qnU (qa9 l) base)) then bif (inI (IntKind.wrap .i64 (((qa9 l).length:Int)-1)) (qa9 l).length) then ((qa9 l)[(Int.toNat (IntKind.wrap .i64 (((qa9 l).length:Int)-1)))]?).bind (fun (v11:qb4) =>
     some ((IntKind.wrap .i64 (v11.1+1)),((0:Int),((0:Int),((0:Int),((0:Int),(([]:List qb4),())))))))
    else none
   else some ((1:Int),((0:Int),((0:Int),((0:Int),((0:Int),(([]:List qb4),())))))))=some (qv3 (qa9 l) base,((0:Int),((0:Int),((0:Int),((0:Int),(([]:List qb4),())))))):=by
    cases hg:(qa9 l).getLast? with
    | none =>
     have he:qa9 l=[]:=List.getLast?_eq_none_iff.1 hg
     rw [he]; rfl
    | some f =>
     have he:qa9 l≠[]:=fun e=>by rw [e] at hg; cases hg
     have hfe:(qa9 l).getLast he=f:=by
      rw [List.getLast?_eq_some_getLast he] at hg; exact Option.some.inj hg
     have hfb:=zz7 (hff f (by rw [<-hfe]; exact List.getLast_mem he));unfold qnU qv3;rw [hg];simp only;by_cases hlt:f.2.1<base
     ·rw [decide_eq_true hlt,if_pos hlt]; rfl
     ·rw [decide_eq_false hlt,if_neg hlt,Bool.not_false,cond_true,qrY he (by omega),hfe,qa4 (by omega) (by omega)]
   rw [hw];simp only [Option.bind_some];unfold openL
   have hgap:(bif (decide ((l.length:Int) > 0)) then ((qj3 l 0)).bind (fun (v13:qe0) =>
     some (decide (v13.1 > (IntKind.wrap .i64 (base+1)))))
    else some false)=some (gapB l base):=by
    cases l with
    | nil=>rfl
    | cons p l =>
     rw [show decide ((((p::l).length:Nat):Int) > 0)=true from decide_eq_true (by simp),qa4 (by omega) (by omega)];rfl
   rw [hgap];simp only [Option.bind_some];cases gapB l base with
   | true=>rfl
   | false =>
    simp only [cond_false,Bool.false_eq_true,if_false];by_cases h3:1000000<qv3 (qa9 l) base
    ·rw [if_pos h3,show decide (qv3 (qa9 l) base > 1000000)=true from decide_eq_true h3]
     rfl
    ·rw [if_neg h3,show decide (qv3 (qa9 l) base > 1000000)=false from decide_eq_false h3]
     simp only [cond_false];exact zz8 hD (by omega) (by omega) (by omega) hp rfl rfl
open IntKind
theorem qhR:∀ (k n:Nat),dig (k+1) n=UInt8.ofNat (48+n / 10 ^ k%10)::dig k n
 | 0,n=>by simp [dig]
 | k+1,n=>by
  have e:n / 10 / 10 ^ k=n / 10 ^ (k+1):=by rw [Nat.div_div_eq_div_mul,Nat.pow_succ,Nat.mul_comm]
  rw [dig,qhR k (n / 10),e];rfl
theorem digit_lt {x y:Nat} (hx:x<10) (hy:y<10):(UInt8.ofNat (48+x)<UInt8.ofNat (48+y))↔x<y:=by
 rw [UInt8.lt_iff_toNat_lt,UInt8.toNat_ofNat',UInt8.toNat_ofNat'];omega
theorem digit_eq {x y:Nat} (hx:x<10) (hy:y<10):(UInt8.ofNat (48+x)=UInt8.ofNat (48+y))↔x=y:=by
 rw [<-UInt8.toNat_inj,UInt8.toNat_ofNat',UInt8.toNat_ofNat'];omega
theorem qvV (a p:Nat):a%(p*10)=(a / p%10)*p+a%p:=by
 rw [Nat.mod_mul,Nat.mul_comm p,Nat.add_comm]
theorem two_lt {x y r s p:Nat} (hr:r<p) (hs:s<p):x*p+r<y*p+s↔x<y\/x=y/\r<s:=by
 rcases Nat.lt_trichotomy x y with h | h | h
 ·have:(x+1)*p<=y*p:=Nat.mul_le_mul_right p h
  rw [Nat.add_mul] at this;constructor
  ·intro _; exact .inl h
  ·intro _; omega
 ·subst h; omega
 ·have:(y+1)*p<=x*p:=Nat.mul_le_mul_right p h
  rw [Nat.add_mul] at this;constructor
  ·intro _; omega
  ·rintro (h' | ⟨h',_⟩)<;>omega
theorem zd8:∀ (k a b:Nat),Go.Op.bytesLess (dig k a) (dig k b)=decide (a%10 ^ k<b%10 ^ k)
 | 0,a,b=>by
  have:∀ n,dig 0 n=[]:=fun n=>rfl
  rw [this,this,Nat.pow_zero,Nat.mod_one,Nat.mod_one]; rfl
 | k+1,a,b=>by
  rw [qhR,qhR,Nat.pow_succ,qvV,qvV];have hp:0<10 ^ k:=Nat.pos_of_ne_zero (by simp);have hx:a / 10 ^ k%10<10:=Nat.mod_lt _ (by decide);have hy:b / 10 ^ k%10<10:=Nat.mod_lt _ (by decide);have hr:=Nat.mod_lt a hp;have hs:=Nat.mod_lt b hp;simp only [Go.Op.bytesLess,zd8 k];rw [Bool.eq_iff_iff];simp only [Bool.or_eq_true,Bool.and_eq_true,decide_eq_true_eq,beq_iff_eq,digit_lt hx hy,digit_eq hx hy];exact (two_lt hr hs).symm
theorem qvW (l:List UInt8):ByteArray.toList (bs l)=l:=by rw [Lib.toList_data]; rfl
theorem zz9 {a b:Nat} (ha:a<10000000000) (hb:b<10000000000):ltS (bs (qt6 a)) (bs (qt6 b))=decide (a<b):=by
 unfold ltS;rw [qvW,qvW];have h10:(10:Nat) ^ 10=10000000000:=by decide
 have:∀ x y:List UInt8,Go.Op.bytesLess (zy9++x) (zy9++y)=Go.Op.bytesLess x y:=by
  intro x y;simp [zy9,Go.Op.bytesLess]
 unfold qt6;rw [this,zd8,h10,Nat.mod_eq_of_lt ha,Nat.mod_eq_of_lt hb]
theorem qs2 {n:Nat} (h1:1<=n) (h2:n<=1000000000):qc3 (n:Int)=bs (qt6 n):=by
 unfold qc3;rw [if_neg (by omega),Int.toNat_natCast]
theorem qnH {a b:Nat} (h1:1<=a) (h2:a<=1000000000) (h3:1<=b) (h4:b<=1000000000) (h:qc3 (a:Int)=qc3 (b:Int)):a=b:=by
 rw [qs2 h1 h2,qs2 h3 h4] at h;have h10:(10:Nat) ^ 10=10000000000:=by decide
 exact qvM (by omega) (by omega) (bs_inj h)
theorem qfA {n:Nat} (h1:1<=n) (h2:n<=1000000000):qn3 (qc3 (n:Int))=true:=by
 rw [qs2 h1 h2];unfold qn3;rw [Bool.and_eq_true];refine ⟨?_,decide_eq_true (by rw [qx4,qiO]; omega)⟩;rw [List.all_eq_true];intro x hx;unfold bytesOf at hx;obtain ⟨c,hc,rfl⟩:=List.mem_map.1 hx;have hc':c∈qt6 n:=hc;unfold qt6 at hc';unfold qvB;rcases List.mem_append.1 hc' with h | h
 ·simp only [zy9,List.mem_cons,List.not_mem_nil,or_false] at h
  rcases h with rfl | rfl | rfl | rfl<;>decide
 ·have:=qmW 10 n c h
  exact decide_eq_true (by omega)
theorem qhS (s:ByteArray):qbG s=0\/∃ n:Nat,1<=n/\n<=1000000000/\s=qc3 (n:Int)/\qbG s=n:=by
 by_cases h:∃ n:Nat,1<=n/\n<=1000000000/\s=bs (qt6 n)
 ·obtain ⟨n,h1,h2,rfl⟩:=h
  exact .inr ⟨n,h1,h2,(qs2 h1 h2).symm,qmX h1 h2⟩
 ·exact .inl (qmY fun n h1 h2 e=>h ⟨n,h1,h2,e⟩)
theorem qz4 {n:Nat} (h1:1<=n) (h2:n<=1000000000):qbG (qc3 (n:Int))=n:=by rw [qs2 h1 h2,qmX h1 h2]
theorem qyP {l:List qb1} (hs:Srt l):(segF l []).Pairwise (·<·):=by
 rw [qhP,List.nil_append,List.pairwise_filter,List.pairwise_map];refine hs.imp fun {f g} h hf hg=>?_
 rcases qhS f.1 with h1 | ⟨a,a1,a2,a3,a4⟩
 ·rw [h1] at hf; simp at hf
 ·rcases qhS g.1 with h2 | ⟨b,b1,b2,b3,b4⟩
  ·rw [h2] at hg; simp at hg
  ·rw [a4,b4]
   rw [a3,b3,qs2 a1 a2,qs2 b1 b2,zz9 (by omega) (by omega)] at h;have:=of_decide_eq_true h;omega
theorem qvX {d:qa3} (h:RightD d):(qg9 d).Pairwise (·<·):=by
 unfold qg9;rw [(qi4 d).2 h,cond_true];exact qyP h.srt
theorem zaA {d:qa3} (h:RightD d) (n:Int):n∈qg9 d↔∃ k:Nat,n=(k:Int)/\1<=k/\k<=1000000000/\(qh8 d.1 (qc3 n)).isSome=true:=by
 unfold qg9;rw [(qi4 d).2 h,cond_true,qhP,List.nil_append,List.mem_filter,List.mem_map];constructor
 ·rintro ⟨⟨f,hf,rfl⟩,hn⟩
  rcases qhS f.1 with h1 | ⟨a,a1,a2,a3,a4⟩
  ·rw [h1] at hn; simp at hn
  ·refine ⟨a,a4,a1,a2,?_⟩
   rw [a4,<-a3,qeU h.srt hf]; rfl
 ·rintro ⟨k,rfl,k1,k2,hk⟩
  rw [Option.isSome_iff_exists] at hk;obtain ⟨f,hf⟩:=hk;refine ⟨⟨f,qi0 hf,?_⟩,by simp; omega⟩;rw [qh5 hf,qz4 k1 k2]
theorem zk2 {l m:List Int} (hl:l.Pairwise (·<·)) (hm:m.Pairwise (·<·)) (h:∀ n,n∈l↔n∈m):l=m:=by
 induction l generalizing m with
 | nil =>
  cases m with
  | nil=>rfl
  | cons a m=>exact absurd ((h a).2 (by simp)) (by simp)
 | cons a l ih =>
  cases m with
  | nil=>exact absurd ((h a).1 (by simp)) (by simp)
  | cons b m =>
   obtain ⟨l1,l2⟩:=List.pairwise_cons.1 hl;obtain ⟨m1,m2⟩:=List.pairwise_cons.1 hm
   have hab:a=b:=by
    rcases List.mem_cons.1 ((h a).1 (by simp)) with e | e
    ·exact e
    ·rcases List.mem_cons.1 ((h b).2 (by simp)) with e' | e'
     ·exact e'.symm
     ·have:=m1 a e; have:=l1 b e'; omega
   subst hab;rw [ih l2 m2 fun n=>⟨fun hn=>?_,fun hn=>?_⟩]
   ·rcases List.mem_cons.1 ((h n).1 (by simp [hn])) with e | e
    ·have:=l1 n hn; omega
    ·exact e
   ·rcases List.mem_cons.1 ((h n).2 (by simp [hn])) with e | e
    ·have:=m1 n hn; omega
    ·exact e
theorem segsP_eq {d:qa3} (h:RightD d) {l:List Int} (hl:l.Pairwise (·<·)) (hm:∀ n:Int,n∈l↔∃ k:Nat,n=(k:Int)/\1<=k/\k<=1000000000/\(qh8 d.1 (qc3 n)).isSome=true):qg9 d=l :=
 zk2 (qvX h) hl fun n=>(zaA h n).trans (hm n).symm
open IntKind
structure SegD (d:qa3) (k:Nat) (F:List qb4) (T:Option (List Nat×Int)):Prop where
 right:RightD d
 full:F.length%8=0
 rng:1<=k/\k+F.length<=1000000000
 seg:∀ n:Nat,1<=n->n<=1000000000->qh8 d.1 (qc3 (n:Int))=if k<=n/\(n-k)%8=0/\n-k<F.length then some (qc3 (n:Int),(qd8 (qi5 ((F.drop (n-k)).take 8)),(576,()))) else
  if n=k+F.length then T.map (fun t=>(qc3 (n:Int),(qd8 t.1,(t.2,())))) else none
 oth:∀ s,(∀ n:Nat,1<=n->n<=1000000000->s≠qc3 (n:Int))->qh8 d.1 s=none
 bytT:∀ t,T=some t->byt t.1
def qdJ (k:Nat):Nat->List Int
 | 0=>[]
 | j+1=>(k:Int)::qdJ (k+8) j
theorem qgN (n:Int):∀ (j k:Nat),n∈qdJ k j↔∃ i:Nat,i<j/\n=((k+8*i:Nat):Int)
 | 0,k=>by simp [qdJ]
 | j+1,k=>by
  simp only [qdJ,List.mem_cons,qgN n j];constructor
  ·rintro (h | ⟨i,h1,h2⟩)
   ·exact ⟨0,by omega,by simpa using h⟩
   ·exact ⟨i+1,by omega,by rw [h2]; congr 1; omega⟩
  ·rintro ⟨i,h1,h2⟩
   cases i with
   | zero=>exact .inl (by simpa using h2)
   | succ i=>exact .inr ⟨i,by omega,by rw [h2]; congr 1; omega⟩
theorem qiQ:∀ (j k:Nat),(qdJ k j).Pairwise (·<·)
 | 0,_=>.nil
 | j+1,k=>List.pairwise_cons.2 ⟨fun n hn=>by obtain ⟨i,_,h⟩:=(qgN n j (k+8)).1 hn; omega,qiQ j (k+8)⟩
def qrZ (n:Nat) (T:Option (List Nat×Int)):List Int:=match T with
 | some _=>[(n:Int)]
 | none=>[]
theorem SegD.segs {d:qa3} {k:Nat} {F:List qb4} {T:Option (List Nat×Int)} (h:SegD d k F T):qg9 d=qdJ k (F.length / 8)++qrZ (k+F.length) T:=by
 have hr:=h.rng;have hf:=h.full;refine segsP_eq h.right ?_ fun n=>?_
 ·rw [List.pairwise_append]
  refine ⟨qiQ _ _,by unfold qrZ; split<;>simp,fun a ha b hb=>?_⟩;obtain ⟨i,h1,rfl⟩:=(qgN a _ _).1 ha;unfold qrZ at hb;split at hb
  ·rw [List.mem_singleton] at hb; subst hb; omega
  ·cases hb
 ·rw [List.mem_append,qgN]
  constructor
  ·rintro (⟨i,h1,rfl⟩ | hn)
   ·refine ⟨k+8*i,rfl,by omega,by omega,?_⟩
    rw [h.seg _ (by omega) (by omega),if_pos ⟨by omega,by omega,by omega⟩]; rfl
   ·unfold qrZ at hn
    split at hn
    ·rename_i t
     rw [List.mem_singleton] at hn;subst hn;refine ⟨k+F.length,rfl,by omega,by omega,?_⟩;rw [h.seg _ (by omega) (by omega),if_neg (by omega),if_pos rfl]; rfl
    ·cases hn
  ·rintro ⟨m,rfl,m1,m2,hm⟩
   rw [h.seg m m1 m2] at hm;split at hm
   ·rename_i hc
    exact .inl ⟨(m-k) / 8,by omega,by congr 1; omega⟩
   ·split at hm
    ·rename_i he
     subst he;right;cases T with
     | none=>cases hm
     | some t=>simp [qrZ]
    ·cases hm
theorem SegD.bytD {d:qa3} {k:Nat} {F:List qb4} {T:Option (List Nat×Int)} (h:SegD d k F T):BytD d:=by
 intro f hf x hx;have hg:=qeU h.right.srt hf
 have key:∀ l:List Nat,byt l->x∈qd8 l->0<=x/\x<256:=by
  intro l hl hx;obtain ⟨n,hn,rfl⟩:=List.mem_map.1 hx;have:=hl n hn;omega
 by_cases hs:∃ n:Nat,1<=n/\n<=1000000000/\f.1=qc3 (n:Int)
 ·obtain ⟨n,n1,n2,hn⟩:=hs
  rw [hn,h.seg n n1 n2] at hg;split at hg
  ·cases hg
   exact key _ (qgL _) hx
  ·split at hg
   ·cases T with
    | none=>cases hg
    | some t=>cases hg; exact key _ (h.bytT t rfl) hx
   ·cases hg
 ·rw [h.oth f.1 fun n n1 n2 e=>hs ⟨n,n1,n2,e⟩] at hg
  cases hg
theorem qvY (l:List qb4) (k:Nat) (hk:k<=72*l.length):∃ rest:List Nat,rest.length<72/\(qi5 l).take k=qi5 (l.take (k / 72))++rest:=by
 have hj:k / 72<=l.length:=by omega
 have hl:(qi5 (l.take (k / 72))).length=72*(k / 72):=by
  rw [qf0,List.length_take]
  congr 1
  omega
 refine ⟨(qi5 (l.drop (k / 72))).take (k-72*(k / 72)),by rw [List.length_take]; omega,?_⟩
 conv=>lhs; rw [<-List.take_append_drop (k / 72) l,qmV]
 rw [List.take_append,hl,List.take_of_length_le (by omega)]
theorem zaB:∀ {l:List qb4} {lsn ep:Int},qu4 l lsn ep=true->∀ (i:Nat) (h:i<l.length),(l[i]).2.1=lsn+i/\ep<=(l[i]).1
 | [],_,_,_,i,h=>by cases h
 | f::l,lsn,ep,hr,i,h=>by
  simp only [qu4,Bool.and_eq_true] at hr;obtain ⟨h1,h2⟩:=zd5 hr.1;cases i with
  | zero=>exact ⟨by simpa using h1,h2⟩
  | succ i =>
   obtain ⟨a,b⟩:=zaB hr.2 i (by simpa using h);exact ⟨by rw [List.getElem_cons_succ,a,h1]; omega,by rw [List.getElem_cons_succ]; omega⟩
theorem qgO {l:List qb4} {lsn ep:Int} (hr:qu4 l lsn ep=true) (h:l≠[]):(l.getLast h).2.1=lsn+(l.length:Int)-1:=by
 have hp:=List.length_pos_iff.2 h;rw [List.getLast_eq_getElem,(zaB hr (l.length-1) (by omega)).1];omega
theorem zd9 {d:qa3} (h:RightD d) (hu:d.2.2.2.1=false) {n:Nat} (n1:1<=n) (n2:n<=1000000000) {f:qb1} (hg:qh8 d.1 (qc3 (n:Int))=some f):(qmO d (qc3 (n:Int))).1=f.2.1:=by
 unfold qmO;rw [qmP h hu (by simpa using qfA n1 n2),if_neg (by simp),hg]
theorem qvZ {C:List qb4} {lsn ep:Int} (hr:qu4 C lsn ep=true) (hi:∀ f∈C,qjB f) (p:Nat) (hp:p<=72*C.length):qm8 ((qi5 C).take p) lsn ep=C.take (p / 72):=by
 obtain ⟨rest,h1,h2⟩:=qvY C p hp;rw [h2,qvJ _ _ _ _ (qmU C lsn ep _ hr) (fun f hf=>hi f (List.mem_of_mem_take hf)),qeX h1,List.append_nil]
def qd5 (k:Nat) (F:List qb4):Nat->List qe0
 | 0=>[]
 | j+1=>((k:Int),(F.take 8,(false,())))::qd5 (k+8) (F.drop 8) j
theorem qx5:∀ (j k:Nat) (F:List qb4),qa9 (qd5 k F j)=F.take (8*j)
 | 0,k,F=>by simp [qd5,qa9]
 | j+1,k,F=>by
  rw [qd5,qcH,qx5 j,Nat.mul_succ,Nat.add_comm,List.take_add]
theorem qiR:∀ (j k:Nat) (F:List qb4),∀ p∈qd5 k F j,p.2.2.1=false
 | 0,k,F,p,hp=>by cases hp
 | j+1,k,F,p,hp=>by
  rcases List.mem_cons.1 hp with rfl | hp
  ·rfl
  ·exact qiR j _ _ p hp
theorem qnI {d:qa3}:∀ (j k:Nat) (F:List qb4) (l:List Int) (out:List qe0) (next ep:Int),F.length=8*j->qu4 F (k:Int) ep=true->(∀ f∈F,qjB f) →
  (∀ i,i<j->qdB d ((k+8*i:Nat):Int)=qi5 ((F.drop (8*i)).take 8))->(∀ p,out.getLast?=some p->next=(k:Int)/\p.2.2.1=false) →
  qo3 d (qdJ k j++l) out next ep=qo3 d l (out++qd5 k F j) (if j=0 then next else ((k+8*j:Nat):Int)) (nxt F (k:Int) ep).2
 | 0,k,F,l,out,next,ep,hl,hr,hi,hs,ho=>by
  have:F=[]:=List.eq_nil_of_length_eq_zero (by omega);subst this;simp [qdJ,qd5,nxt]
 | j+1,k,F,l,out,next,ep,hl,hr,hi,hs,ho=>by
  have h8:(F.take 8).length=8:=by rw [List.length_take]; omega
  have hs0:=hs 0 (by omega);simp only [Nat.mul_zero,Nat.add_zero,List.drop_zero] at hs0;have hpl:(qi5 (F.take 8)).length=576:=by rw [qf0,h8]
  have hrt:qu4 (F.take 8) (k:Int) ep=true:=qmU F _ _ 8 hr
  have hscan:qm8 ((qdB d (k:Int)).take 576) (k:Int) ep=F.take 8:=by
   rw [hs0,qvZ hrt (fun f hf=>hi f (List.mem_of_mem_take hf)) 576 (by omega),List.take_of_length_le (by omega)]
  have hpc:qd4 d (k:Int) ep=((k:Int),(F.take 8,(false,()))):=by
   unfold qd4;rw [hscan,hs0,hpl,h8];rfl
  have hne:(F.take 8)≠[]:=fun e=>by rw [e] at h8; cases h8
  have hsplit:qu4 (F.drop 8) (nxt (F.take 8) (k:Int) ep).1 (nxt (F.take 8) (k:Int) ep).2=true:=by
   rw [<-List.take_append_drop 8 F,qq6,Bool.and_eq_true] at hr;exact hr.2
  have hnx:nxt (F.take 8) (k:Int) ep=(((k+8:Nat):Int),((F.take 8).getLast hne).1):=by
   rw [qgK _ _ _ hne];have:=qgO hrt hne;rw [this,h8];simp only [Prod.mk.injEq,and_true];omega
  have hgo:qo3 d ((k:Int)::(qdJ (k+8) j++l)) out next ep=qo3 d (qdJ (k+8) j++l) (out++[((k:Int),(F.take 8,(false,())))]) ((k+8:Nat):Int) ((F.take 8).getLast hne).1:=by
   conv=>lhs; unfold qo3
   have hd:(if h:(qd4 d (k:Int) ep).2.1=[] then (out++[qd4 d (k:Int) ep],((qdJ (k+8) j++l),())) else qo3 d (qdJ (k+8) j++l) (out++[qd4 d (k:Int) ep]) ((k:Int)+((qd4 d (k:Int) ep).2.1.length:Int)) ((qd4 d (k:Int) ep).2.1.getLast h).1)=qo3 d (qdJ (k+8) j++l) (out++[((k:Int),(F.take 8,(false,())))]) ((k+8:Nat):Int) ((F.take 8).getLast hne).1:=by
    rw [dif_neg (by rw [hpc]; exact hne)];simp only [hpc,h8];rfl
   cases hg:out.getLast? with
   | none=>exact hd
   | some p =>
    obtain ⟨h1,h2⟩:=ho p hg;simp only;rw [if_neg (by simp [h1,h2])];exact hd
  show qo3 d ((k:Int)::(qdJ (k+8) j++l)) out next ep=_;rw [hgo];rw [hnx] at hsplit
  rw [qnI j (k+8) (F.drop 8) l _ _ _ (by rw [List.length_drop]; omega) hsplit (fun f hf=>hi f (List.mem_of_mem_drop hf)) (fun i hij=>by
   rw [List.drop_drop,show k+8+8*i=k+8*(i+1) by omega,show 8+8*i=8*(i+1) by omega];exact hs (i+1) (by omega)) (fun p hp=>by
   rw [List.getLast?_append] at hp;simp at hp;subst hp;exact ⟨rfl,rfl⟩)]
  have e1:nxt F (k:Int) ep=nxt (F.drop 8) ((k+8:Nat):Int) ((F.take 8).getLast hne).1:=by
   conv=>lhs; rw [<-List.take_append_drop 8 F,zj7,hnx]
  rw [e1,List.append_assoc]
  congr 1
  rw [if_neg (show ¬ (j+1=0) by omega)];by_cases hj:j=0
  ·rw [if_pos hj,hj]
  ·rw [if_neg hj]; congr 1; omega
open IntKind
theorem SegD.put {d d':qa3} {k:Nat} {F:List qb4} {T:Option (List Nat×Int)} (h:SegD d k F T) (hr:RightD d') {b:List Nat} {s:Int} (hb:byt b) (hl:d'.1=qk5 d.1 (qc3 ((k+F.length:Nat):Int),(qd8 b,(s,())))) (h0:k+F.length<=1000000000):SegD d' k F (some (b,s)):=by
 have hk:=h.rng;have hget:∀ m,qh8 d'.1 m=if qc3 ((k+F.length:Nat):Int)=m then some (qc3 ((k+F.length:Nat):Int),(qd8 b,(s,()))) else qh8 d.1 m:=fun m=>by rw [hl,zv8 h.right.srt]
 refine ⟨hr,h.full,h.rng,fun n n1 n2=>?_,fun m hm=>?_,fun t ht=>by cases ht; exact hb⟩
 ·rw [hget]
  by_cases hn:n=k+F.length
  ·subst hn
   rw [if_pos rfl,if_neg (by omega),if_pos rfl]; rfl
  ·rw [if_neg (fun e=>hn (qnH (by omega) h0 n1 n2 e).symm),h.seg n n1 n2,if_neg hn,if_neg hn]
 ·rw [hget,if_neg (fun e=>hm (k+F.length) (by omega) h0 e.symm)]
  exact h.oth m hm
theorem SegD.del {d d':qa3} {k:Nat} {F:List qb4} {T:Option (List Nat×Int)} (h:SegD d k F T) (hr:RightD d') (hl:d'.1=qiM d.1 (qc3 ((k+F.length:Nat):Int))):SegD d' k F none:=by
 have hk:=h.rng;have hget:∀ m,qh8 d'.1 m=if qc3 ((k+F.length:Nat):Int)=m then none else qh8 d.1 m:=fun m=>by rw [hl,zv9 h.right.srt]
 refine ⟨hr,h.full,h.rng,fun n n1 n2=>?_,fun m hm=>?_,fun t ht=>by cases ht⟩
 ·rw [hget]
  by_cases hn:n=k+F.length
  ·subst hn
   rw [if_pos rfl,if_neg (by omega),if_pos rfl]; rfl
  ·rw [if_neg (fun e=>hn (qnH (by omega) (by omega) n1 n2 e).symm),h.seg n n1 n2,if_neg hn,if_neg hn]
 ·rw [hget,if_neg (fun e=>hm (k+F.length) (by omega) (by omega) e.symm)]
  exact h.oth m hm
theorem SegD.tail {d:qa3} {k:Nat} {F:List qb4} {T:Option (List Nat×Int)} (h:SegD d k F T):qh8 d.1 (qc3 ((k+F.length:Nat):Int))=T.map fun t=>(qc3 ((k+F.length:Nat):Int),(qd8 t.1,(t.2,()))):=by
 have hk:=h.rng;rw [h.seg _ (by omega) (by omega),if_neg (by omega),if_pos rfl]
theorem SegD.same {d d':qa3} {k:Nat} {F:List qb4} {T:Option (List Nat×Int)} (h:SegD d k F T) (hr:RightD d') (hl:d'.1=d.1):SegD d' k F T :=
 ⟨hr,h.full,h.rng,fun n n1 n2=>by rw [hl]; exact h.seg n n1 n2,fun m hm=>by rw [hl]; exact h.oth m hm,h.bytT⟩
def qcI (A:List qb4):Option (List Nat×Int):=if A.length%8=0 then none else some (qi5 (A.drop (8*(A.length / 8))),((72*(A.length%8):Nat):Int))
def JrD (d:qa3) (k:Nat) (A:List qb4):Prop:=SegD d k (A.take (8*(A.length / 8))) (qcI A)
theorem SegD.jr0 {d:qa3} {k:Nat} {F:List qb4} (h:SegD d k F none):JrD d k F:=by
 have hf:=h.full;unfold JrD qcI;rw [if_pos hf,List.take_of_length_le (by omega)];exact h
theorem SegD.jr {d:qa3} {k:Nat} {F C:List qb4} (h:SegD d k F (some (qi5 C,((72*C.length:Nat):Int)))) (h1:1<=C.length) (h8:C.length<=8) (hk:k+F.length+C.length<=1000000000):JrD d k (F++C):=by
 have hf:=h.full;have hr:=h.rng;rcases Nat.lt_or_ge C.length 8 with hc | hc
 ·have e1:(F++C).length%8=C.length:=by rw [List.length_append]; omega
  have e2:8*((F++C).length / 8)=F.length:=by rw [List.length_append]; omega
  unfold JrD qcI;rw [if_neg (by omega),e1,e2,List.take_left,List.drop_left];exact h
 ·have hc:C.length=8:=by omega
  refine SegD.jr0 ⟨h.right,by rw [List.length_append]; omega,by rw [List.length_append]; omega,fun n n1 n2=>?_,h.oth,fun t ht=>by cases ht⟩;rw [h.seg n n1 n2,List.length_append];by_cases ha:k<=n/\(n-k)%8=0/\n-k<F.length
  ·rw [if_pos ha,if_pos ⟨ha.1,ha.2.1,by omega⟩,List.drop_append_of_le_length (by omega),List.take_append_of_le_length (by rw [List.length_drop]; omega)]
  ·rw [if_neg ha]
   by_cases hn:n=k+F.length
   ·subst hn
    rw [if_pos rfl,if_pos ⟨by omega,by omega,by omega⟩,show k+F.length-k=F.length by omega,List.drop_left,List.take_of_length_le (by omega),hc];rfl
   ·rw [if_neg hn,if_neg (by omega)]
    split<;>rfl
theorem SegD.bytes {d:qa3} {k:Nat} {F:List qb4} {T:Option (List Nat×Int)} (h:SegD d k F T) (hu:d.2.2.2.1=false):(∀ i,i<F.length / 8->qdB d ((k+8*i:Nat):Int)=qi5 ((F.drop (8*i)).take 8))/\∀ t,T=some t->qdB d ((k+F.length:Nat):Int)=t.1:=by
 have hf:=h.full;have hr:=h.rng;refine ⟨fun i hi=>?_,fun t ht=>?_⟩
 ·unfold qdB
  rw [zd9 h.right hu (by omega) (by omega) (by rw [h.seg _ (by omega) (by omega),if_pos ⟨by omega,by omega,by omega⟩]),qnB,show k+8*i-k=8*i by omega]
 ·subst ht
  unfold qdB;rw [zd9 h.right hu (by omega) (by omega) h.tail,qnB]
def qcJ (n:Nat) (C:List qb4) (p:Nat):qe0:=((n:Int),(C.take (p / 72),(decide (72*(p / 72)<p),())))
theorem SegD.read0 {d:qa3} {k:Nat} {F:List qb4} (h:SegD d k F none) (hu:d.2.2.2.1=false) (hr:qu4 F (k:Int) 1=true) (hi:∀ f∈F,qjB f):qo3 d (qg9 d) [] 0 1=(qd5 k F (F.length / 8),([],())):=by
 have hf:=h.full;rw [h.segs,qnI (F.length / 8) k F _ [] 0 1 (by omega) hr hi (h.bytes hu).1 (by simp)];simp only [qrZ,qo3,List.nil_append]
theorem SegD.read1 {d:qa3} {k:Nat} {F C:List qb4} {p:Nat} {s:Int} (h:SegD d k F (some ((qi5 C).take p,s))) (hu:d.2.2.2.1=false) (hr:qu4 F (k:Int) 1=true) (hi:∀ f∈F,qjB f)
  (hrc:qu4 C ((k+F.length:Nat):Int) (nxt F (k:Int) 1).2=true) (hic:∀ f∈C,qjB f) (h8:C.length<=8) (hp:p<=72*C.length):qo3 d (qg9 d) [] 0 1=(qd5 k F (F.length / 8)++[qcJ (k+F.length) C p],([],())):=by
 have hf:=h.full;rw [h.segs,qnI (F.length / 8) k F _ [] 0 1 (by omega) hr hi (h.bytes hu).1 (by simp)];simp only [qrZ,List.nil_append];have hsb:=(h.bytes hu).2 _ rfl;simp only at hsb;have hlen:((qi5 C).take p).length=p:=by rw [List.length_take,qf0]; omega
 have hpc:qd4 d ((k+F.length:Nat):Int) (nxt F (k:Int) 1).2=qcJ (k+F.length) C p:=by
  unfold qd4 qcJ;rw [hsb,List.take_of_length_le (by rw [hlen]; omega),qvZ hrc hic p hp,hlen];have:(C.take (p / 72)).length=p / 72:=by rw [List.length_take]; omega
  rw [this]
 have hgo:(if h':(qd4 d ((k+F.length:Nat):Int) (nxt F (k:Int) 1).2).2.1=[] then (qd5 k F (F.length / 8)++[qd4 d ((k+F.length:Nat):Int) (nxt F (k:Int) 1).2],(([]:List Int),())) else qo3 d [] (qd5 k F (F.length / 8)++[qd4 d ((k+F.length:Nat):Int) (nxt F (k:Int) 1).2]) (((k+F.length:Nat):Int)+((qd4 d ((k+F.length:Nat):Int) (nxt F (k:Int) 1).2).2.1.length:Int)) ((qd4 d ((k+F.length:Nat):Int) (nxt F (k:Int) 1).2).2.1.getLast h').1)=(qd5 k F (F.length / 8)++[qcJ (k+F.length) C p],([],())):=by
  split
  ·rw [hpc]
  ·simp only [qo3,hpc]
 unfold qo3;cases hg:(qd5 k F (F.length / 8)).getLast? with
 | none=>exact hgo
 | some q =>
  have hq:=qiR _ _ _ q (List.mem_of_getLast? hg);have hj:F.length / 8≠0:=fun e=>by rw [e] at hg; cases hg
  simp only;rw [if_neg]
  ·exact hgo
  ·rw [if_neg hj,show 8*(F.length / 8)=F.length by omega,hq]
   simp
open IntKind
theorem rem_free {d:qa3} (h:RightD d) (hu:d.2.2.2.1=false) (hf:d.2.2.1=-1) {n:ByteArray} (hn:qn3 n=true) {f:qb1} (hg:qh8 d.1 n=some f):remD d n=((qiM d.1 n,d.2),(0,())):=by
 unfold remD onD;rw [qmP h hu (by simpa using hn),hg];simp only [ne_eq,not_true_eq_false,if_false];exact qvD hf
theorem cut_free {d:qa3} (h:RightD d) (hu:d.2.2.2.1=false) (hf:d.2.2.1=-1) {n:ByteArray} (hn:qn3 n=true) {f:qb1} (hg:qh8 d.1 n=some f) {k:Int} (h0:0<=k) (h1:k<=f.2.1.length):cutD d n k=((qk5 d.1 (zi9 f k),d.2),(0,())):=by
 unfold cutD onD;rw [qmP h hu (by simpa using hn),hg];simp only [ne_eq,not_true_eq_false,if_false];rw [if_neg (by omega)];exact qvD hf
theorem qcK:∀ (j k:Nat) (F:List qb4),qd5 k F (j+1)=qd5 k F j++[(((k+8*j:Nat):Int),((F.drop (8*j)).take 8,(false,())))]
 | 0,k,F=>by simp [qd5]
 | j+1,k,F=>by
  rw [qd5,qcK j (k+8) (F.drop 8),qd5];simp only [List.cons_append];rw [List.drop_drop,show k+8+8*j=k+8*(j+1) by omega,show 8+8*j=8*(j+1) by omega]
theorem qiS (k:Nat) (F:List qb4) (j:Nat) (l:List qe0) (p:qe0) (h:(qd5 k F j++l).head? = some p):p.1=(k:Int)\/(j=0/\l.head? = some p):=by
 cases j with
 | zero=>exact .inr ⟨rfl,h⟩
 | succ j=>simp [qd5] at h; exact .inl (by rw [<-h])
def wOf (k:Nat) (A:List qb4) (base:Int):qn5:=match A.getLast? with
 | none=>(1,(base+1,(base,(0,(0,([],()))))))
 | some f=>(f.1+1,(((k+A.length:Nat):Int),(((k+A.length:Nat):Int)-1,(((k+8*((A.length-1) / 8):Nat):Int),(((A.length-8*((A.length-1) / 8):Nat):Int),([],()))))))
theorem zaC {A:List qb4} {k:Nat} {base:Int} (hr:qu4 A (k:Int) 1=true) (hne:A≠[]) (hb:base<(k+A.length:Nat)):qnU A base=false:=by
 unfold qnU;rw [List.getLast?_eq_some_getLast hne];have:=qgO hr hne;exact decide_eq_false (by omega)
theorem qdC {m:qa3} {k:Nat} {A:List qb4} {base:Int} {l:List qe0} {p:qe0} (hr:qu4 A (k:Int) 1=true) (hne:A≠[]) (hb:base<(k+A.length:Nat)) (hl:l.getLast?=some p) (h1:p.1=((k+8*((A.length-1) / 8):Nat):Int)) (h2:p.2.1.length=A.length-8*((A.length-1) / 8)) :
  qjD base A (m,0) l=(wOf k A base,(m,(A.filter (qp9 base),(0,())))):=by
 have hn:=zaC hr hne hb;unfold qjD wOf;rw [if_neg (by rw [hn]; simp),if_neg (by simp),List.getLast?_eq_some_getLast hne,hl];have hll:=qgO hr hne;have hlt:¬ (A.getLast hne).2.1<base:=by omega
 unfold qv3;rw [List.getLast?_eq_some_getLast hne];simp only [if_neg hlt,h1,h2,hll];rw [show (k:Int)+(A.length:Int)-1+1=((k+A.length:Nat):Int) by omega,show (k:Int)+(A.length:Int)-1=((k+A.length:Nat):Int)-1 by omega,if_neg (by omega)]
theorem qqB {m:qa3} {base:Int} {l:List qe0} (hs:qg9 m=[]):qjD base [] (m,0) l=(wOf 0 [] base,(m,([],(0,())))):=by
 unfold qjD;rw [if_pos (by rfl),hs];rfl
structure Free (d:qa3):Prop where
 up:d.2.2.2.1=false
 fuse:d.2.2.1=-1
structure RowJ (k:Nat) (A:List qb4):Prop where
 row:qu4 A (k:Int) 1=true
 inn:∀ f∈A,qjB f
 ep:∀ f∈A,f.1<=999999
theorem ze0 {d:qa3} (hr:RightD d) (hu:d.2.2.2.1=false) {base:Int} (h0:0<=base/\base<1000000000) {l:List qe0} (hrd:qo3 d (qg9 d) [] 0 1=(l,([],()))) (hg:∀ p,l.head?=some p->p.1<=base+1) (he:qv3 (qa9 l) base<=1000000) :
  qyN d base=qjD base (qa9 l) (qjC (d,0) l).1 (qjC (d,0) l).2:=by
 unfold qyN;rw [if_neg (by rw [(qi4 d).2 hr]; simp; omega),if_neg (by rw [hu]; simp),hrd];unfold openL
 have:gapB l base=false:=by
  unfold gapB;cases h:l.head? with
  | none=>rfl
  | some p=>exact decide_eq_false (by have:=hg p h; omega)
 rw [if_neg (by rw [this]; simp),if_neg (by simp only; omega)];rfl
theorem qqC {k:Nat} {A:List qb4} (h:RowJ k A) (base:Int):qv3 A base<=1000000:=by
 unfold qv3;cases hl:A.getLast? with
 | none=>exact (by decide:(1:Int)<=1000000)
 | some f =>
  have:=h.ep f (List.mem_of_getLast? hl);simp only;split<;>omega
theorem zk3 {d:qa3} {k:Nat} {F:List qb4} (h:SegD d k F none) (hu:d.2.2.2.1=false) (hJ:RowJ k F) {base:Int} (h0:0<=base/\base<1000000000) (hk:(k:Int)<=base+1) (hb:F=[]\/base<(k+F.length:Nat)) :
  qyN d base=(wOf k F base,(d,(F.filter (qp9 base),(0,())))):=by
 have hf:=h.full;have hfr:qa9 (qd5 k F (F.length / 8))=F:=by rw [qx5,List.take_of_length_le (by omega)]
 rw [ze0 h.right hu h0 (h.read0 hu hJ.row hJ.inn) (fun p hp=>by
  rcases qiS k F (F.length / 8) [] p (by simpa using hp) with h1 | ⟨_,h1⟩
  ·omega
  ·cases h1) (by rw [hfr]; exact qqC hJ base),hfr]
 by_cases hF:F=[]
 ·subst hF
  have:qg9 d=[]:=by rw [h.segs]; rfl
  show qjD base [] (qjC (d,0) []).1 (qjC (d,0) []).2=_;rw [show (qjC (d,0) [])=((d,0),[]) from rfl,qqB this];rfl
 ·have hp:=List.length_pos_iff.2 hF
  obtain ⟨j,hj⟩:∃ j,F.length / 8=j+1:=⟨F.length / 8-1,by omega⟩;have hlast:(qd5 k F (F.length / 8)).getLast? = some (((k+8*j:Nat):Int),((F.drop (8*j)).take 8,(false,()))):=by rw [hj,qcK]; simp
  have h8:((F.drop (8*j)).take 8).length=8:=by rw [List.length_take,List.length_drop]; omega
  have hE:qjC (d,0) (qd5 k F (F.length / 8))=((d,0),qd5 k F (F.length / 8)):=by
   unfold qjC;rw [hlast];simp only;rw [if_neg (fun e=>by rw [e] at h8; cases h8),if_neg (by simp)]
  rw [hE];exact qdC hJ.row hF (hb.resolve_left hF) hlast (by simp only; omega) (by simp only [h8]; omega)
theorem zk4 {d:qa3} {k:Nat} {F C:List qb4} {p:Nat} (h:SegD d k F (some ((qi5 C).take p,(p:Int)))) (hfr:Free d) (hJ:RowJ k (F++C)) (h8:C.length<=8) (hp:p<=72*C.length) (hkm:k+F.length+C.length<=1000000000)
  {base:Int} (h0:0<=base/\base<1000000000) (hk:(k:Int)<=base+1) (hb:F++C.take (p / 72)=[]\/base<(k+(F++C.take (p / 72)).length:Nat)) :
  ∃ d',qyN d base=(wOf k (F++C.take (p / 72)) base,(d',((F++C.take (p / 72)).filter (qp9 base),(0,()))))/\JrD d' k (F++C.take (p / 72))/\d'.2=d.2/\(p%72=0->72<=p->d'=d):=by
 have hf:=h.full;have hrg:=h.rng
 have hJF:qu4 F (k:Int) 1=true/\qu4 C (nxt F (k:Int) 1).1 (nxt F (k:Int) 1).2=true:=by
  have:=hJ.row
  rwa [qq6,Bool.and_eq_true] at this
 have hnx:(nxt F (k:Int) 1).1=((k+F.length:Nat):Int):=by
  by_cases hF:F=[]
  ·subst hF; rfl
  ·rw [qgK _ _ _ hF,qgO hJF.1 hF]
   simp only; omega
 rw [hnx] at hJF;have hq:(C.take (p / 72)).length=p / 72:=by rw [List.length_take]; omega
 have hrd:=h.read1 hfr.up hJF.1 (fun f hf=>hJ.inn f (by simp [hf])) hJF.2 (fun f hf=>hJ.inn f (by simp [hf])) h8 hp
 have hfp:qa9 (qd5 k F (F.length / 8)++[qcJ (k+F.length) C p])=F++C.take (p / 72):=by
  unfold qa9;rw [List.flatMap_append,<-qa9,qx5,List.take_of_length_le (by omega)];simp [qcJ]
 have hJA:RowJ k (F++C.take (p / 72)):=by
  have hsub:∀ f∈F++C.take (p / 72),f∈F++C:=fun f hf=>by
   rcases List.mem_append.1 hf with h | h
   ·simp [h]
   ·exact List.mem_append.2 (.inr (List.mem_of_mem_take h))
  refine ⟨?_,fun f hf=>hJ.inn f (hsub f hf),fun f hf=>hJ.ep f (hsub f hf)⟩;rw [qq6,hJF.1,Bool.true_and,hnx];exact qmU C _ _ _ hJF.2
 have hg:=h.tail;simp only [Option.map_some] at hg;have hnm:qn3 (qc3 ((k+F.length:Nat):Int))=true:=qfA (by omega) (by omega)
 rw [ze0 h.right hfr.up h0 hrd (fun q hq'=>by
  rcases qiS k F (F.length / 8) _ q hq' with h1 | ⟨h1,h2⟩
  ·omega
  ·simp only [List.head?_cons,Option.some.injEq] at h2
   subst h2;have:F.length=0:=by omega
   simp only [qcJ]; omega) (by rw [hfp]; exact qqC hJA base),hfp]
 have hlast:(qd5 k F (F.length / 8)++[qcJ (k+F.length) C p]).getLast? = some (qcJ (k+F.length) C p):=by simp
 by_cases hq0:p / 72=0
 ·-- nothing whole of it: the segment goes
  have hrem:=rem_free h.right hfr.up hfr.fuse hnm hg;have hrr:RightD (qiM d.1 (qc3 ((k+F.length:Nat):Int)),d.2):=by have:=qpS h.right (qc3 ((k+F.length:Nat):Int)); rwa [hrem] at this
  have hS:=h.del hrr rfl
  have hE:qjC (d,0) (qd5 k F (F.length / 8)++[qcJ (k+F.length) C p])=(((qiM d.1 (qc3 ((k+F.length:Nat):Int)),d.2),0),qd5 k F (F.length / 8)):=by
   unfold qjC;rw [hlast];simp only [qcJ,hq0,List.take_zero,if_true];rw [List.dropLast_concat];unfold qpW;simp only [List.reverse_cons,List.reverse_nil,List.nil_append,List.foldl_cons,List.foldl_nil,remS,if_true,hrem]
  rw [hE];have e0:F++C.take (p / 72)=F:=by rw [hq0]; simp
  rw [e0] at hJA hb ⊢;refine ⟨(qiM d.1 (qc3 ((k+F.length:Nat):Int)),d.2),?_,hS.jr0,rfl,fun h1 h2=>by omega⟩;by_cases hF:F=[]
  ·subst hF
   have:qg9 (qiM d.1 (qc3 ((k+([]:List qb4).length:Nat):Int)),d.2)=[]:=by rw [hS.segs]; rfl
   simp only;rw [qqB this];rfl
  ·have hpos:=List.length_pos_iff.2 hF
   obtain ⟨j,hj⟩:∃ j,F.length / 8=j+1:=⟨F.length / 8-1,by omega⟩;have hlastF:(qd5 k F (F.length / 8)).getLast?=some (((k+8*j:Nat):Int),((F.drop (8*j)).take 8,(false,()))):=by rw [hj,qcK]; simp
   have h88:((F.drop (8*j)).take 8).length=8:=by rw [List.length_take,List.length_drop]; omega
   exact qdC hJA.row hF (hb.resolve_left hF) hlastF (by simp only; omega) (by simp only [h88]; omega)
 ·have hne:F++C.take (p / 72)≠[]:=fun e=>by
   have:=congrArg List.length e;rw [List.length_append,hq] at this;simp only [List.length_nil] at this;omega
  have hCne:C.take (p / 72)≠[]:=fun e=>by rw [e] at hq; simp at hq; omega
  have hlen:(F++C.take (p / 72)).length=F.length+p / 72:=by rw [List.length_append,hq]
  have ha1:((k+F.length:Nat):Int)=((k+8*(((F++C.take (p / 72)).length-1) / 8):Nat):Int):=by rw [hlen]; omega
  have ha2:(C.take (p / 72)).length=(F++C.take (p / 72)).length-8*(((F++C.take (p / 72)).length-1) / 8):=by rw [hlen,hq]; omega
  have hbs:((qi5 C).take p).take (72*(p / 72))=qi5 (C.take (p / 72)):=by
   rw [List.take_take,Nat.min_eq_left (by omega)];obtain ⟨rest,r1,r2⟩:=qvY C (72*(p / 72)) (by omega);have hl2:((qi5 C).take (72*(p / 72))).length=72*(p / 72):=by rw [List.length_take,qf0]; omega
   have e:72*(p / 72) / 72=p / 72:=by omega
   rw [e] at r2;rw [r2,List.length_append,qf0,hq] at hl2;have:rest=[]:=List.eq_nil_of_length_eq_zero (by omega);rw [r2,this,List.append_nil]
  by_cases hm:72*(p / 72)<p
  ·-- other bytes: they are cut off
   have hcut:=cut_free h.right hfr.up hfr.fuse hnm hg (k:=((72*(p / 72):Nat):Int)) (by omega) (by
    simp only [qb0,List.length_take,qf0]; omega)
   have hcf:zi9 (qc3 ((k+F.length:Nat):Int),(qd8 ((qi5 C).take p),((p:Int),()))) ((72*(p / 72):Nat):Int)=(qc3 ((k+F.length:Nat):Int),(qd8 (qi5 (C.take (p / 72))),(((72*(p / 72):Nat):Int),()))):=by
    unfold zi9;simp only [Int.toNat_natCast,qmK,hbs];rw [if_pos (by omega)]
   rw [hcf] at hcut;have hrr:=qpR h.right (qc3 ((k+F.length:Nat):Int)) ((72*(p / 72):Nat):Int);rw [hcut] at hrr;have hS:=h.put hrr (qgL (C.take (p / 72))) rfl (by omega)
   have hE:qjC (d,0) (qd5 k F (F.length / 8)++[qcJ (k+F.length) C p])=(((qk5 d.1 (qc3 ((k+F.length:Nat):Int),(qd8 (qi5 (C.take (p / 72))),(((72*(p / 72):Nat):Int),()))),d.2),0),qd5 k F (F.length / 8)++[qcJ (k+F.length) C p]):=by
    unfold qjC;rw [hlast];simp only [qcJ];rw [if_neg hCne,if_pos ⟨decide_eq_true hm,trivial⟩,hq,show ((p / 72:Nat):Int)*72=((72*(p / 72):Nat):Int) by omega,hcut]
   rw [hE];refine ⟨(qk5 d.1 (qc3 ((k+F.length:Nat):Int),(qd8 (qi5 (C.take (p / 72))),(((72*(p / 72):Nat):Int),()))),d.2),qdC hJA.row hne (hb.resolve_left hne) hlast ha1 ha2,?_,rfl,fun h1 h2=>by omega⟩;have e:((72*(p / 72):Nat):Int)=((72*(C.take (p / 72)).length:Nat):Int):=by rw [hq]
   have hS':SegD (qk5 d.1 (qc3 ((k+F.length:Nat):Int),(qd8 (qi5 (C.take (p / 72))),(((72*(p / 72):Nat):Int),()))),d.2) k F (some (qi5 (C.take (p / 72)),((72*(C.take (p / 72)).length:Nat):Int))):=by rw [<-e]; exact hS
   exact hS'.jr (by omega) (by omega) (by omega)
  ·have hE:qjC (d,0) (qd5 k F (F.length / 8)++[qcJ (k+F.length) C p])=((d,0),qd5 k F (F.length / 8)++[qcJ (k+F.length) C p]):=by
    unfold qjC;rw [hlast];simp only [qcJ];rw [if_neg hCne,if_neg (by simp only [decide_eq_true_eq]; omega)]
   rw [hE];refine ⟨d,qdC hJA.row hne (hb.resolve_left hne) hlast ha1 ha2,?_,rfl,fun _ _=>rfl⟩;have e:p=72*(p / 72):=by omega
   have e2:(qi5 C).take p=qi5 (C.take (p / 72)):=by rw [<-hbs,List.take_take,Nat.min_eq_left (by omega)]; congr 1
   have e3:(p:Int)=((72*(C.take (p / 72)).length:Nat):Int):=by rw [hq]; omega
   rw [e2,e3] at h;exact h.jr (by omega) (by omega) (by omega)
open IntKind
def qdK (A:List qb4):List qb4:=A.take (8*(A.length / 8))
def qe8 (A:List qb4):List qb4:=A.drop (8*(A.length / 8))
theorem qdD (A:List qb4):qdK A++qe8 A=A:=List.take_append_drop _ _
theorem qp8 (A:List qb4):(qdK A).length=8*(A.length / 8):=by unfold qdK; rw [List.length_take]; omega
theorem qq8 (A:List qb4):(qe8 A).length=A.length%8:=by unfold qe8; rw [List.length_drop]; omega
theorem JrD.seg {d:qa3} {k:Nat} {A:List qb4} (h:JrD d k A):SegD d k (qdK A) (qcI A):=h
theorem JrD.right {d:qa3} {k:Nat} {A:List qb4} (h:JrD d k A):RightD d:=h.seg.right
structure WOk (w:qn5) (k:Nat) (A:List qb4):Prop where
 r:RightW w
 k1:1<=k
 sure:w.2.2.1=((k+A.length:Nat):Int)-1
 seg:(A=[]/\w.2.2.2.1=0/\w.2.2.2.2.1=0)\/(A≠[]/\w.2.2.2.1=((k+8*((A.length-1) / 8):Nat):Int)/\w.2.2.2.2.1=((A.length-8*((A.length-1) / 8):Nat):Int))
theorem WOk.sgW {w:qn5} {k:Nat} {A:List qb4} (h:WOk w k A):qw6 w=(((k+(qdK A).length:Nat):Int),(((qe8 A).length:Nat):Int)):=by
 rw [qp8,qq8];unfold qw6;have hs:=h.sure;rcases h.seg with ⟨rfl,h1,h2⟩ | ⟨h0,h1,h2⟩
 ·rw [if_pos (.inl h1),hs]
  simp
 ·have:=List.length_pos_iff.2 h0
  split
  ·rename_i hc
   have:A.length%8=0:=by
    rcases hc with hc | hc
    ·have:=h.k1; omega
    ·omega
   rw [hs];simp only [Prod.mk.injEq];omega
  ·rename_i hc
   have:w.2.2.2.2.1≠8:=fun e=>hc (.inr e)
   rw [h1,h2];simp only [Prod.mk.injEq];omega
theorem WOk.many {w:qn5} {k:Nat} {A:List qb4} (h:WOk w k A):qd2 w<=w.2.2.2.2.2.1.length/\qd2 w+(qe8 A).length<=8/\(w.2.2.2.2.2.1≠[]->1<=qd2 w):=by
 obtain ⟨h1,h2,h3⟩:=qrX h.r.com;rw [h.sgW] at h2;simp only at h2;exact ⟨h1,by omega,h3⟩
theorem rowB_ep {l:List qb4} {lsn ep ep':Int} (hr:qu4 l lsn ep=true) (h:ep'<=ep):qu4 l lsn ep'=true:=by
 cases l with
 | nil=>rfl
 | cons f l =>
  simp only [qu4,Bool.and_eq_true] at hr ⊢;refine ⟨?_,hr.2⟩;obtain ⟨h1,h2⟩:=zd5 hr.1;have h3:=qmT hr.1;unfold tak;rw [h3,h1,decide_eq_false (by omega)];simp
theorem zaD {l:List qb4} {lsn ep:Int} (hr:qu4 l lsn ep=true) (n:Nat) (hn:n<=l.length):qu4 (l.drop n) (lsn+n) ep=true:=by
 induction n generalizing l lsn ep with
 | zero=>simpa using hr
 | succ n ih =>
  cases l with
  | nil=>simp at hn
  | cons f l =>
   simp only [qu4,Bool.and_eq_true] at hr;obtain ⟨h1,h2⟩:=zd5 hr.1;have:=ih (l:=l) (lsn:=f.2.1+1) (ep:=f.1) hr.2 (by simpa using hn);rw [List.drop_succ_cons,show lsn+((n+1:Nat):Int)=f.2.1+1+n by omega];exact rowB_ep this h2
theorem WOk.got {w:qn5} {k:Nat} {A:List qb4} (h:WOk w k A) (hne:w.2.2.2.2.2.1≠[]):WOk (zk9 w) k (A++w.2.2.2.2.2.1.take (qd2 w)):=by
 obtain ⟨m1,m2,m3⟩:=h.many;have m3:=m3 hne;have hlen:(w.2.2.2.2.2.1.take (qd2 w)).length=qd2 w:=by rw [List.length_take]; omega
 have hR:=h.r;have hs:=h.sure;have hsw:=h.sgW;have hcl:=qq8 A;have hfl:=qp8 A;have hk:=h.k1;refine ⟨?_,h.k1,?_,.inr ⟨fun e=>?_,?_,?_⟩⟩
 ·have hn:=hR.len
  have hsu:=hR.sure;refine ⟨hR.ep,hR.next,?_,?_,?_,fun f hf=>hR.eps f (List.mem_of_mem_drop hf),.inr ?_⟩
  ·show 0<=w.2.2.1+(qd2 w:Int)/\w.2.2.1+(qd2 w:Int)<w.2.1
   omega
  ·show (w.2.2.2.2.2.1.drop (qd2 w)).length<=32/\((w.2.2.2.2.2.1.drop (qd2 w)).length:Int)=w.2.1-1-(w.2.2.1+(qd2 w:Int))
   rw [List.length_drop]; omega
  ·show qu4 (w.2.2.2.2.2.1.drop (qd2 w)) (w.2.2.1+(qd2 w:Int)+1) 1=true
   have:=zaD hR.row (qd2 w) m1
   rwa [show w.2.2.1+1+(qd2 w:Int)=w.2.2.1+(qd2 w:Int)+1 by omega] at this
  ·show 1<=(qw6 w).1/\1<=(qw6 w).2+(qd2 w:Int)/\(qw6 w).2+(qd2 w:Int)<=8/\(qw6 w).1+((qw6 w).2+(qd2 w:Int))=w.2.2.1+(qd2 w:Int)+1
   rw [hsw];simp only;omega
 ·show w.2.2.1+(qd2 w:Int)=_
  rw [List.length_append,hlen]; omega
 ·have:=congrArg List.length e
  rw [List.length_append,hlen] at this;simp only [List.length_nil] at this;omega
 ·show (qw6 w).1=_
  rw [hsw,List.length_append,hlen];simp only;omega
 ·show (qw6 w).2+(qd2 w:Int)=_
  rw [hsw,List.length_append,hlen];simp only;omega
open IntKind
def LostD (d:qa3) (k:Nat) (A G:List qb4):Prop:=SegD d k (qdK A) (some (qi5 (qe8 A++G),((72*(qe8 A).length:Nat):Int)))
def FullD (d:qa3) (n:ByteArray) (b:List Int):Prop:=d.2.1<qh7 d.1+b.length\/(qh8 d.1 n=none/\d.1.length=64)
inductive SaveR (d:qa3) (k:Nat) (A G:List qb4) (r:qa3×(Int×Unit)):Prop
 | ok (h0:r.2.1=0) (hj:JrD r.1 k (A++G)) (hu:r.1.2.2.2.1=false) (hr:r.1.2.1=d.2.1) (hf:d.2.2.1=-1->r.1.2.2.1=-1)
 | full (h0:r.2.1=6) (he:r.1=d)
 | lost (h0:r.2.1=9) (hj:LostD r.1 k A G) (hd:r.1.2.2.2.1=true) (hr:r.1.2.1=d.2.1) (hf:d.2.2.1≠-1)
theorem qqD {A:List qb4} {b:List Nat} {s:Int} (h:qcI A=some (b,s)):b=qi5 (qe8 A)/\s=((72*(qe8 A).length:Nat):Int):=by
 unfold qcI at h;split at h
 ·cases h
 ·cases h
  exact ⟨rfl,by rw [qq8]⟩
theorem zk5 {A:List qb4} (h:qcI A=none):qe8 A=[]:=by
 unfold qcI at h;split at h
 ·exact List.eq_nil_of_length_eq_zero (by rw [qq8]; omega)
 ·cases h
theorem JrD.fileOf {d:qa3} {k:Nat} {A:List qb4} (h:JrD d k A):(fileOf d.1 (qc3 ((k+(qdK A).length:Nat):Int))).2=(qd8 (qi5 (qe8 A)),(((72*(qe8 A).length:Nat):Int),())):=by
 unfold Go.AI.fileOf;rw [h.seg.tail];cases hT:qcI A with
 | none=>rw [zk5 hT]; rfl
 | some t =>
  obtain ⟨b,s⟩:=t;obtain ⟨rfl,rfl⟩:=qqD hT;rfl
theorem save_out {d:qa3} {k:Nat} {A:List qb4} (h:JrD d k A) (hu:d.2.2.2.1=false) {w:qn5} (hw:WOk w k A) (hne:w.2.2.2.2.2.1≠[]) (hbig:k+A.length+w.2.2.2.2.2.1.length<=100000000):SaveR d k A (w.2.2.2.2.2.1.take (qd2 w)) (qt7 w d)/\((qt7 w d).2.1=6->FullD d (qc3 ((k+(qdK A).length:Nat):Int)) (qd8 (qi5 (w.2.2.2.2.2.1.take (qd2 w))))):=by
 obtain ⟨m1,m2,m3⟩:=hw.many;have m3:=m3 hne;have hG:(w.2.2.2.2.2.1.take (qd2 w)).length=qd2 w:=by rw [List.length_take]; omega
 have hrg:=h.seg.rng;have hR:=hw.r;have hk:=hw.k1;have hsu:=hw.sure;have hln:=hR.len;have hnx:=hR.next;have hcl:=qq8 A;have hfl:=qp8 A;have hn:qn3 (qc3 ((k+(qdK A).length:Nat):Int))=true:=qfA (by omega) (by omega);generalize hGg:w.2.2.2.2.2.1.take (qd2 w)=G at hG;unfold qt7;rw [hw.sgW,hGg];simp only;generalize hN:qc3 ((k+(qdK A).length:Nat):Int)=N at hn;have herr:qgF d [N]=0:=qmP h.right hu (by simpa using hn);have hfile:=h.fileOf;rw [hN] at hfile
 have happ:qrM d N (qd8 (qi5 G))=if d.2.1<qh7 d.1+(qd8 (qi5 G)).length\/(qh8 d.1 N=none/\d.1.length=64) then (d,(6,())) else goD (qk5 d.1 (N,(qd8 (qi5 (qe8 A++G)),(((72*(qe8 A).length:Nat):Int),()))),d.2) (qk5 d.1 (N,(qd8 (qi5 (qe8 A++G)),(((72*(qe8 A).length:Nat):Int),()))),d.2):=by
  unfold qrM;rw [herr,if_neg (by simp),hfile,<-qeT,<-qmV]
 have hright:=qpQ h.right N (qd8 (qi5 G));by_cases hfu:d.2.1<qh7 d.1+(qd8 (qi5 G)).length\/(qh8 d.1 N=none/\d.1.length=64)
 ·rw [if_pos hfu] at happ
  rw [happ];simp only;rw [if_neg (by decide)];exact ⟨.full rfl rfl,fun _=>hfu⟩
 ·rw [if_neg hfu] at happ
  generalize hfq:(N,(qd8 (qi5 (qe8 A++G)),((((72*(qe8 A).length:Nat):Int)),())))=fq at happ;have hfn:fq.1=N:=by rw [<-hfq]
  by_cases hz:d.2.2.1=0
  ·have hgo:goD (qk5 d.1 fq,d.2) (qk5 d.1 fq,d.2)=(downD (qk5 d.1 fq,d.2),(9,())):=zc6 hz
   rw [hgo] at happ;rw [happ] at hright ⊢;simp only;rw [if_neg (by decide)];refine ⟨.lost rfl ?_ rfl rfl (by rw [hz]; decide),fun e=>absurd (show (9:Int)=6 from e) (by decide)⟩;exact h.seg.put hright (qgL _) (by show qk5 d.1 fq=_; rw [<-hfq,<-hN]) (by omega)
  ·have hgo:goD (qk5 d.1 fq,d.2) (qk5 d.1 fq,d.2)=(qn4 (qk5 d.1 fq,d.2),(0,())):=by unfold goD; rw [if_neg hz]
   rw [hgo] at happ;rw [happ] at hright ⊢;simp only [if_true]
   -- the first file is there; it is synced
   have hS1:SegD (qn4 (qk5 d.1 fq,d.2)) k (qdK A) (some (qi5 (qe8 A++G),((72*(qe8 A).length:Nat):Int))):=h.seg.put hright (qgL _) (by show qk5 d.1 fq=_; rw [<-hfq,<-hN]) (by omega);have hg1:=hS1.tail;rw [hN] at hg1;simp only [Option.map_some] at hg1;have herr1:qgF (qn4 (qk5 d.1 fq,d.2)) [N]=0:=qmP hright hu (by simpa using hn)
   have hsy:qrN (qn4 (qk5 d.1 fq,d.2)) N=goD (qn4 (qk5 d.1 fq,d.2)) (qk5 (qn4 (qk5 d.1 fq,d.2)).1 (N,(qd8 (qi5 (qe8 A++G)),(((qd8 (qi5 (qe8 A++G))).length:Int),()))),(qn4 (qk5 d.1 fq,d.2)).2):=by
    unfold qrN onD;rw [herr1,if_neg (by simp),hg1]
   have hright2:=qmR hright N;have hlenG:((qd8 (qi5 (qe8 A++G))).length:Int)=((72*(qe8 A++G).length:Nat):Int):=by rw [qb0,qf0]
   by_cases hz1:(qn4 (qk5 d.1 fq,d.2)).2.2.1=0
   ·rw [zc6 hz1] at hsy
    rw [hsy] at hright2 ⊢;refine ⟨.lost rfl ?_ rfl rfl ?_,fun e=>absurd (show (9:Int)=6 from e) (by decide)⟩
    ·exact hS1.same hright2 rfl
    ·intro e
     have:(if d.2.2.1=-1 then -1 else d.2.2.1-1)=(0:Int):=hz1;rw [if_pos e] at this;cases this
   ·have hgo2:goD (qn4 (qk5 d.1 fq,d.2)) (qk5 (qn4 (qk5 d.1 fq,d.2)).1 (N,(qd8 (qi5 (qe8 A++G)),(((qd8 (qi5 (qe8 A++G))).length:Int),()))),(qn4 (qk5 d.1 fq,d.2)).2)=(qn4 (qk5 (qn4 (qk5 d.1 fq,d.2)).1 (N,(qd8 (qi5 (qe8 A++G)),(((qd8 (qi5 (qe8 A++G))).length:Int),()))),(qn4 (qk5 d.1 fq,d.2)).2),(0,())):=by unfold goD; rw [if_neg hz1]
    rw [hgo2] at hsy;rw [hsy] at hright2 ⊢;refine ⟨.ok rfl ?_ hu rfl ?_,fun e=>absurd (show (0:Int)=6 from e) (by decide)⟩
    ·have hS2:SegD (qn4 (qk5 (qn4 (qk5 d.1 fq,d.2)).1 (N,(qd8 (qi5 (qe8 A++G)),(((qd8 (qi5 (qe8 A++G))).length:Int),()))),(qn4 (qk5 d.1 fq,d.2)).2)) k (qdK A) (some (qi5 (qe8 A++G),((qd8 (qi5 (qe8 A++G))).length:Int))):=hS1.put hright2 (qgL _) (by rw [hN]; rfl) (by omega)
     have hq:JrD (qn4 (qk5 (qn4 (qk5 d.1 fq,d.2)).1 (N,(qd8 (qi5 (qe8 A++G)),(((qd8 (qi5 (qe8 A++G))).length:Int),()))),(qn4 (qk5 d.1 fq,d.2)).2)) k (qdK A++(qe8 A++G)) :=
      SegD.jr (by rw [<-hlenG]; exact hS2) (by rw [List.length_append]; omega) (by rw [List.length_append]; omega) (by rw [List.length_append]; omega)
     rw [<-List.append_assoc,qdD] at hq;exact hq
    ·intro e
     show (if (if d.2.2.1=-1 then -1 else d.2.2.1-1)=-1 then -1 else (if d.2.2.1=-1 then -1 else d.2.2.1-1)-1)=(-1:Int);rw [if_pos e]; rfl
inductive ComR (d:qa3) (k:Nat) (A W:List qb4) (w':qn5) (r:qa3×(Int×Unit)):Prop
 | ok (h0:r.2.1=0) (hj:JrD r.1 k (A++W)) (hu:r.1.2.2.2.1=false) (hw:WOk w' k (A++W)) (hW:w'.2.2.2.2.2.1=[])
 | full (i:Nat) (hi:i<=W.length) (h0:r.2.1=6) (hj:JrD r.1 k (A++W.take i)) (hu:r.1.2.2.2.1=false) (hw:WOk w' k (A++W.take i)) (hW:w'.2.2.2.2.2.1=W.drop i) (hF:∃ m,FullD r.1 (qc3 ((k+(qdK (A++W.take i)).length:Nat):Int)) (qd8 (qi5 ((W.drop i).take m))))
 | lost (i m:Nat) (hi:i<=W.length) (hm:(qe8 (A++W.take i)).length+((W.drop i).take m).length<=8) (h0:r.2.1=9) (hj:LostD r.1 k (A++W.take i) ((W.drop i).take m)) (hd:r.1.2.2.2.1=true) (hw:WOk w' k (A++W.take i)) (hW:w'.2.2.2.2.2.1=W.drop i) (hf:d.2.2.1≠-1)
theorem ComR.cons {d d1:qa3} {k:Nat} {A G W:List qb4} {w':qn5} {r:qa3×(Int×Unit)} (h:ComR d1 k (A++G) W w' r) (hf:d.2.2.1=-1->d1.2.2.1=-1):ComR d k A (G++W) w' r:=by
 have e1:∀ i,(G++W).take (G.length+i)=G++W.take i:=fun i=>by rw [List.take_append,List.take_of_length_le (by omega)]; congr 2; omega
 have e2:∀ i,(G++W).drop (G.length+i)=W.drop i:=fun i=>by rw [List.drop_append,List.drop_eq_nil_of_le (by omega)]; simp
 cases h with
 | ok h0 hj hu hw hW=>exact .ok h0 (by rwa [List.append_assoc] at hj) hu (by rwa [List.append_assoc] at hw) hW
 | full i hi h0 hj hu hw hW hF =>
  refine .full (G.length+i) (by rw [List.length_append]; omega) h0 ?_ hu ?_ (by rw [e2]; exact hW) ?_
  ·rw [e1,<-List.append_assoc]; exact hj
  ·rw [e1,<-List.append_assoc]; exact hw
  ·rw [e1,e2,<-List.append_assoc]; exact hF
 | lost i m hi hm h0 hj hd hw hW hf' =>
  refine .lost (G.length+i) m (by rw [List.length_append]; omega) ?_ h0 ?_ hd ?_ (by rw [e2]; exact hW) (fun e=>hf' (hf e))
  ·rw [e1,e2,<-List.append_assoc]; exact hm
  ·rw [e1,e2,<-List.append_assoc]; exact hj
  ·rw [e1,<-List.append_assoc]; exact hw
theorem zaE:∀ (n:Nat) {d:qa3} {k:Nat} {A:List qb4} {w:qn5},w.2.2.2.2.2.1.length<=n->JrD d k A->d.2.2.2.1=false->WOk w k A->k+A.length+w.2.2.2.2.2.1.length<=100000000->ComR d k A w.2.2.2.2.2.1 (qvO n w d).1 (qvO n w d).2/\(qvO n w d).1.1=w.1/\(qvO n w d).1.2.1=w.2.1/\(qvO n w d).2.1.2.1=d.2.1/\(d.2.2.1=-1->(qvO n w d).2.1.2.2.1=-1)
 | 0,d,k,A,w,hn,h,hu,hw,_=>by
  have h0:w.2.2.2.2.2.1=[]:=List.eq_nil_of_length_eq_zero (by omega);exact ⟨.ok rfl (by rw [h0,List.append_nil]; exact h) hu (by rw [h0,List.append_nil]; exact hw) h0,rfl,rfl,rfl,fun e=>e⟩
 | n+1,d,k,A,w,hn,h,hu,hw,hbig=>by
  unfold qvO;by_cases h0:w.2.2.2.2.2.1=[]
  ·rw [if_pos h0]
   exact ⟨.ok rfl (by rw [h0,List.append_nil]; exact h) hu (by rw [h0,List.append_nil]; exact hw) h0,rfl,rfl,rfl,fun e=>e⟩
  ·rw [if_neg h0]
   obtain ⟨m1,m2,m3⟩:=hw.many;have m3:=m3 h0;obtain ⟨hs,hs6⟩:=save_out h hu hw h0 hbig;cases hs with
   | ok q0 hj hu1 hr hf =>
    rw [if_neg (by simpa using q0)]
    obtain ⟨i1,i2,i3,i4,i5⟩:=zaE n (w:=zk9 w) (by show (w.2.2.2.2.2.1.drop (qd2 w)).length<=n; rw [List.length_drop]; omega) hj hu1 (hw.got h0) (by
     show k+(A++w.2.2.2.2.2.1.take (qd2 w)).length+(w.2.2.2.2.2.1.drop (qd2 w)).length<=_;rw [List.length_append,List.length_take,List.length_drop]; omega)
    refine ⟨?_,i2,i3,i4.trans hr,fun e=>i5 (hf e)⟩;have:=ComR.cons (d:=d) i1 hf
    rwa [show (zk9 w).2.2.2.2.2.1=w.2.2.2.2.2.1.drop (qd2 w) from rfl,List.take_append_drop] at this
   | full q0 he =>
    rw [if_pos (by rw [q0]; decide)];refine ⟨.full 0 (by omega) q0 ?_ ?_ ?_ rfl ⟨qd2 w,?_⟩,rfl,rfl,?_,?_⟩
    ·rw [he]; simpa using h
    ·rw [he]; exact hu
    ·simpa using hw
    ·rw [he]; simpa using hs6 q0
    ·show (qt7 w d).1.2.1=_; rw [he]
    ·intro e; show (qt7 w d).1.2.2.1=_; rw [he]; exact e
   | lost q0 hj hd hr hf =>
    rw [if_pos (by rw [q0]; decide)];refine ⟨.lost 0 (qd2 w) (by omega) ?_ q0 ?_ hd ?_ rfl hf,rfl,rfl,hr,fun e=>absurd e hf⟩
    ·rw [List.take_zero,List.append_nil,List.drop_zero,List.length_take]; omega
    ·simpa using hj
    ·simpa using hw
open IntKind
theorem qyQ (w:qn5):∀ (l:List qb1) (b:Bool),(∀ f∈l,qbG f.1<=w.2.2.1)->(∀ f∈l,qbG f.1 > 0->qbG f.1=w.2.2.2.1->(f.2.1.length:Int)=w.2.2.2.2.1*72)->(b=true\/∃ f∈l,qbG f.1 > 0/\qbG f.1=w.2.2.2.1)->fitF w l b=.inl (true,())
 | [],b,_,_,h=>by
  rcases h with rfl | ⟨f,hf,_⟩
  ·rfl
  ·cases hf
 | g::l,b,h1,h2,h3=>by
  unfold fitF;by_cases hg:qbG g.1 > 0/\qbG g.1=w.2.2.2.1
  ·rw [if_pos hg]
   exact qyQ w l _ (fun f hf=>h1 f (by simp [hf])) (fun f hf=>h2 f (by simp [hf])) (.inl (decide_eq_true (h2 g (by simp) hg.1 hg.2)))
  ·rw [if_neg hg,if_neg (by have:=h1 g (by simp); omega)]
   refine qyQ w l b (fun f hf=>h1 f (by simp [hf])) (fun f hf=>h2 f (by simp [hf])) ?_
   rcases h3 with h | ⟨f,hf,h⟩
   ·exact .inl h
   ·rcases List.mem_cons.1 hf with rfl | hf
    ·exact absurd h hg
    ·exact .inr ⟨f,hf,h⟩
theorem JrD.files {d:qa3} {k:Nat} {A:List qb4} (h:JrD d k A) {f:qb1} (hf:f∈d.1):∃ n:Nat,1<=n/\n<=1000000000/\f.1=qc3 (n:Int)/\k<=n/\(n-k)%8=0/\n-k<A.length/\f.2.1.length=72*min 8 (A.length-(n-k)):=by
 have hS:=h.seg;have hrg:=hS.rng;have hfl:=qp8 A;have hcl:=qq8 A;have hg:=qeU hS.right.srt hf;by_cases hs:∃ n:Nat,1<=n/\n<=1000000000/\f.1=qc3 (n:Int)
 ·obtain ⟨n,n1,n2,hn⟩:=hs
  rw [hn,hS.seg n n1 n2] at hg;split at hg
  ·rename_i hc
   refine ⟨n,n1,n2,hn,hc.1,hc.2.1,by omega,?_⟩;cases hg;simp only [qb0,qf0,List.length_take,List.length_drop];omega
  ·split at hg
   ·rename_i hne hc
    cases hT:qcI A with
    | none=>rw [hT] at hg; cases hg
    | some t =>
     obtain ⟨b,s⟩:=t;have hmod:A.length%8≠0:=fun e=>by unfold qcI at hT; rw [if_pos e] at hT; cases hT
     rw [hT] at hg;obtain ⟨rfl,rfl⟩:=qqD hT;cases hg;refine ⟨n,n1,n2,hn,by omega,by omega,by omega,?_⟩;simp only [qb0,qf0];omega
   ·cases hg
 ·rw [hS.oth f.1 fun n n1 n2 e=>hs ⟨n,n1,n2,e⟩] at hg
  cases hg
theorem JrD.there {d:qa3} {k:Nat} {A:List qb4} (h:JrD d k A) (hA:A≠[]):∃ f,f∈d.1/\f.1=qc3 ((k+8*((A.length-1) / 8):Nat):Int):=by
 have hS:=h.seg;have hrg:=hS.rng;have hfl:=qp8 A;have hp:=List.length_pos_iff.2 hA
 have:(qh8 d.1 (qc3 ((k+8*((A.length-1) / 8):Nat):Int))).isSome=true:=by
  rw [hS.seg _ (by omega) (by omega)];by_cases hm:A.length%8=0
  ·rw [if_pos ⟨by omega,by omega,by omega⟩]; rfl
  ·rw [if_neg (by omega),if_pos (by omega)]
   unfold qcI;rw [if_neg hm]; rfl
 obtain ⟨f,hf⟩:=Option.isSome_iff_exists.1 this;exact ⟨f,qi0 hf,qh5 hf⟩
theorem fits_ok {d:qa3} {k:Nat} {A:List qb4} (h:JrD d k A) {w:qn5} (hw:WOk w k A):qyH w d=true:=by
 unfold qyH;rw [(qu5 w).2 hw.r,(qi4 d).2 h.right,Bool.true_and,Bool.true_and];have hs:=hw.sure;have hk:=hw.k1
 have q1:∀ f∈d.1,qbG f.1<=w.2.2.1:=fun f hf=>by
  obtain ⟨n,n1,n2,hn,a1,a2,a3,a4⟩:=h.files hf;rw [hn,qz4 n1 n2]; omega
 have q2:∀ f∈d.1,qbG f.1 > 0->qbG f.1=w.2.2.2.1->(f.2.1.length:Int)=w.2.2.2.2.1*72:=fun f hf h1 h2=>by
  obtain ⟨n,n1,n2,hn,a1,a2,a3,a4⟩:=h.files hf;rw [hn,qz4 n1 n2] at h2;rcases hw.seg with ⟨_,b1,_⟩ | ⟨_,b1,b2⟩
  ·omega
  ·rw [a4,b2]
   omega
 have q3:decide (w.2.2.2.1=0)=true\/∃ f∈d.1,qbG f.1 > 0/\qbG f.1=w.2.2.2.1:=by
  rcases hw.seg with ⟨_,b1,_⟩ | ⟨b0,b1,b2⟩
  ·exact .inl (decide_eq_true b1)
  ·right
   obtain ⟨f,hf,hfn⟩:=h.there b0;have hrg:=h.seg.rng;have hfl:=qp8 A;obtain ⟨n,n1,n2,hn,a1,a2,a3,a4⟩:=h.files hf;refine ⟨f,hf,?_⟩;have:n=k+8*((A.length-1) / 8):=qnH n1 n2 (by omega) (by omega) (by rw [<-hn,hfn]);rw [hn,qz4 n1 n2,b1];omega
 rw [qyQ w d.1 _ q1 q2 q3]
theorem zaF {d:qa3} {k:Nat} {A:List qb4} (h:JrD d k A) {w:qn5} (hw:WOk w k A):qrW w d=qvO w.2.2.2.2.2.1.length w d:=by
 unfold qrW;rw [if_pos (fits_ok h hw)]
theorem qnJ:∀ {l:List qb1},(∀ f∈l,f.2.1.length<=576)->qh7 l<=576*l.length
 | [],_=>by simp [qh7]
 | f::l,h=>by
  have h1:=h f (by simp);have h2:=qnJ fun g hg=>h g (List.mem_cons_of_mem f hg)
  have:qh7 (f::l)=f.2.1.length+qh7 l:=by simp [qh7]
  rw [this,List.length_cons]; omega
theorem JrD.small {d:qa3} {k:Nat} {A:List qb4} (h:JrD d k A):d.1.length<=A.length / 8+1/\qh7 d.1<=576*(A.length / 8+1):=by
 have hlen:d.1.length=(qg9 d).length:=by
  unfold qg9;rw [(qi4 d).2 h.right,cond_true,qhP,List.nil_append,List.filter_eq_self.2,List.length_map];intro n hn;obtain ⟨f,hf,rfl⟩:=List.mem_map.1 hn;obtain ⟨n,n1,n2,hn,_⟩:=h.files hf;rw [hn,qz4 n1 n2];exact decide_eq_true (by omega)
 have hnums:∀ (j k:Nat),(qdJ k j).length=j:=by
  intro j
  induction j with
  | zero=>intro k; rfl
  | succ j ih=>intro k; rw [qdJ,List.length_cons,ih]
 have hl:d.1.length<=A.length / 8+1:=by
  rw [hlen,h.seg.segs,List.length_append,hnums,qp8];have:(qrZ (k+8*(A.length / 8)) (qcI A)).length<=1:=by unfold qrZ; split<;>simp
  omega
 refine ⟨hl,Nat.le_trans (qnJ fun f hf=>?_) (Nat.mul_le_mul_left 576 hl)⟩;obtain ⟨n,_,_,_,_,_,_,h4⟩:=h.files hf;rw [h4]; omega
open IntKind
theorem qwA {k:Nat} {A:List qb4} (h:RowJ k A) (hne:A≠[]):1<=(A.getLast hne).1/\(A.getLast hne).1<=999999 :=
 ⟨(zz7 (qjV h.row _ (List.getLast_mem hne))).1,h.ep _ (List.getLast_mem hne)⟩
theorem zaG {k:Nat} {A:List qb4} {base:Int} (h:RowJ k A) (k1:1<=k) (hk:k+A.length<=1000000000) (hb:A=[]->(k:Int)=base+1):WOk (wOf k A base) k A:=by
 by_cases hA:A=[]
 ·subst hA
  have hb:=hb rfl;refine ⟨⟨?_,?_,?_,?_,rfl,(fun f hf=>by cases hf),.inl ⟨rfl,rfl⟩⟩,k1,?_,.inl ⟨rfl,rfl,rfl⟩⟩
  ·exact ⟨Int.le_refl 1,(by decide:(1:Int)<=1000000)⟩
  ·show 1<=base+1/\base+1<=1000000001
   simp only [List.length_nil] at hk; omega
  ·show 0<=base/\base<base+1
   omega
  ·refine ⟨Nat.zero_le _,?_⟩
   show ((0:Nat):Int)=base+1-1-base;omega
  ·show base=_
   simp only [List.length_nil]; omega
 ·have hp:=List.length_pos_iff.2 hA
  obtain ⟨e1,e2⟩:=qwA h hA;unfold wOf;rw [List.getLast?_eq_some_getLast hA];refine ⟨⟨?_,?_,?_,?_,rfl,(fun f hf=>by cases hf),.inr ?_⟩,k1,rfl,.inr ⟨hA,rfl,rfl⟩⟩
  ·show 1<=(A.getLast hA).1+1/\(A.getLast hA).1+1<=1000000
   omega
  ·show 1<=((k+A.length:Nat):Int)/\((k+A.length:Nat):Int)<=1000000001
   omega
  ·show 0<=((k+A.length:Nat):Int)-1/\((k+A.length:Nat):Int)-1<((k+A.length:Nat):Int)
   omega
  ·refine ⟨Nat.zero_le _,?_⟩
   show ((0:Nat):Int)=((k+A.length:Nat):Int)-1-(((k+A.length:Nat):Int)-1);omega
  ·show 1<=((k+8*((A.length-1) / 8):Nat):Int)/\1<=((A.length-8*((A.length-1) / 8):Nat):Int)/\((A.length-8*((A.length-1) / 8):Nat):Int)<=8/\((k+8*((A.length-1) / 8):Nat):Int)+((A.length-8*((A.length-1) / 8):Nat):Int)=((k+A.length:Nat):Int)-1+1
   omega
theorem open_jr {d:qa3} {k:Nat} {A:List qb4} (h:JrD d k A) (hf:Free d) (hJ:RowJ k A) (hkm:k+A.length<=1000000000) {base:Int} (h0:0<=base/\base<1000000000) (hk:(k:Int)<=base+1) (hb:A=[]\/base<(k+A.length:Nat)) :
  qyN d base=(wOf k A base,(d,(A.filter (qp9 base),(0,())))):=by
 have hfl:=qp8 A;have hcl:=qq8 A;by_cases hm:A.length%8=0
 ·have hA:qdK A=A:=List.take_of_length_le (by omega)
  have hS:=h.seg;unfold qcI at hS;rw [if_pos hm,hA] at hS;exact zk3 hS hf.up hJ h0 hk hb
 ·have hS:=h.seg
  unfold qcI at hS;rw [if_neg hm] at hS;have hpl:(qi5 (qe8 A)).length=72*(A.length%8):=by rw [qf0,hcl]
  have hq:72*(A.length%8) / 72=A.length%8:=by omega
  have htk:(qe8 A).take (72*(A.length%8) / 72)=qe8 A:=by rw [hq]; exact List.take_of_length_le (by omega)
  have hS':SegD d k (qdK A) (some ((qi5 (qe8 A)).take (72*(A.length%8)),((72*(A.length%8):Nat):Int))):=by
   rw [List.take_of_length_le (by omega)];exact hS
  obtain ⟨d',g1,g2,g3,g4⟩:=zk4 hS' hf (by rw [qdD]; exact hJ) (by omega) (by omega) (by omega) h0 hk (by rw [htk,qdD]; exact hb);rw [htk,qdD] at g1;rw [g1,g4 (by omega) (by omega)]
theorem zbF {l:List qb4} {lsn ep:Int} (hr:qu4 l lsn ep=true):(nxt l lsn ep).1=lsn+l.length:=by
 by_cases h:l=[]
 ·subst h; simp [nxt]
 ·rw [qgK _ _ _ h,qgO hr h]
  simp only; omega
theorem nxt_ep {l:List qb4} {lsn ep e:Int} (h:∀ f∈l,f.1=e) (he:ep<=e):(nxt l lsn ep).2<=e:=by
 by_cases h0:l=[]
 ·subst h0; exact he
 ·rw [qgK _ _ _ h0]
  exact Int.le_of_eq (h _ (List.getLast_mem h0))
def qhT (w:qn5) (k:Int) (b:qbB):qb4:=(w.1,(w.2.1,(k,(b,()))))
def qhU (w:qn5) (k:Int) (b:qbB):qn5:=(w.1,(w.2.1+1,(w.2.2.1,(w.2.2.2.1,(w.2.2.2.2.1,(w.2.2.2.2.2.1++[qhT w k b],()))))))
theorem qsA {w:qn5} {k:Nat} {A:List qb4} (h:WOk w k A) {kd:Int} (hk:1<=kd/\kd<=6) (b:qbB) (h32:w.2.2.2.2.2.1.length<32) (hn:w.2.1<=1000000000):putW w kd b=(qhU w kd b,(0,()))/\WOk (qhU w kd b) k A:=by
 have hR:=h.r;have hl:=hR.len;have hs:=hR.sure;refine ⟨?_,⟨⟨hR.ep,?_,?_,?_,?_,?_,hR.seg⟩,h.k1,h.sure,h.seg⟩⟩
 ·unfold putW
  rw [if_neg (by rw [(qu5 w).2 hR]; simp; omega),if_neg (by omega),if_neg (by omega)];rfl
 ·show 1<=w.2.1+1/\w.2.1+1<=1000000001
  have:=hR.next; omega
 ·show 0<=w.2.2.1/\w.2.2.1<w.2.1+1
  omega
 ·show (w.2.2.2.2.2.1++[qhT w kd b]).length<=32/\((w.2.2.2.2.2.1++[qhT w kd b]).length:Int)=w.2.1+1-1-w.2.2.1
  rw [List.length_append]; simp only [List.length_cons,List.length_nil]; omega
 ·show qu4 (w.2.2.2.2.2.1++[qhT w kd b]) (w.2.2.1+1) 1=true
  rw [qq6,hR.row,Bool.true_and,zbF hR.row];have he:=nxt_ep (lsn:=w.2.2.1+1) (ep:=1) hR.eps hR.ep.1;simp only [qu4,Bool.and_true]
  have hF:qbE (qhT w kd b)=true:=by
   have:=hR.ep;have:=hR.next;unfold qbE qhT;simp only [Bool.and_eq_true,decide_eq_true_eq];omega
  unfold tak;rw [hF,show (qhT w kd b).2.1=w.2.2.1+1+(w.2.2.2.2.2.1.length:Int) by show w.2.1=_; omega,decide_eq_false (by show ¬ w.1<_; omega)];simp
 ·intro f hf
  rcases List.mem_append.1 hf with h1 | h1
  ·exact hR.eps f h1
  ·rw [List.mem_singleton] at h1
   rw [h1]; rfl
def d0 (room:Int):qa3:=([],(room,(-1,(false,()))))
theorem d0_right {room:Int} (h:0<=room/\room<=65536):RightD (d0 room):=by
 rw [<-qi4];unfold qq1 d0;simp only [List.length_nil,okL,Bool.and_true,decide_eq_true_eq];omega
theorem zk6 {room:Int} (h:0<=room/\room<=65536):JrD (d0 room) 1 [] :=
 ⟨d0_right h,rfl,⟨Nat.le_refl 1,by decide⟩,fun n n1 n2=>by
  rw [if_neg (by simp)];simp [qcI,d0,qh8],fun s _=>rfl,fun t ht=>by simp [qcI] at ht⟩
theorem qhV (room:Int):Free (d0 room):=⟨rfl,rfl⟩
theorem row0 (k:Nat):RowJ k []:=⟨rfl,(fun f hf=>by cases hf),(fun f hf=>by cases hf)⟩
open IntKind
theorem qyR {d:qa3} {k:Nat} {A:List qb4} (h:JrD d k A) (hf:Free d) (hJ:RowJ k A) (hkm:k+A.length<=1000000000) {base:Int} (h0:0<=base/\base<1000000000) (hk:(k:Int)<=base+1) (hb:A=[]\/base<(k+A.length:Nat)) :
  qi3 (d,(base,()))=some (wOf k A base,(d,(A.filter (qp9 base),(0,())))):=by
 rw [zbA h.right.namesOk (by rw [hf.fuse]; decide) h.seg.bytD,open_jr h hf hJ hkm h0 hk hb]
theorem ze1 {d:qa3} {k:Nat} {A:List qb4} {w:qn5} (h:JrD d k A) (hf:Free d) (hw:WOk w k A) (hb:k+A.length+w.2.2.2.2.2.1.length<=300) (hroom:d.2.1=65536\/(k+A.length+w.2.2.2.2.2.1.length<=10/\d.2.1=5000)) :
  ∃ w' d',qf9 (w,(d,()))=some (w',(d',(0,())))/\JrD d' k (A++w.2.2.2.2.2.1)/\Free d'/\d'.2.1=d.2.1/\WOk w' k (A++w.2.2.2.2.2.1)/\w'.2.2.2.2.2.1=[]/\w'.1=w.1/\w'.2.1=w.2.1:=by
 obtain ⟨c1,c2,c3,c4,c5⟩:=zaE w.2.2.2.2.2.1.length (Nat.le_refl _) h hf.up hw (by omega);have hfu:=c5 hf.fuse;refine ⟨(qvO w.2.2.2.2.2.1.length w d).1,(qvO w.2.2.2.2.2.1.length w d).2.1,?_,?_⟩
 ·rw [zk0 w d (by have:=hw.r.len; omega) h.right.namesOk (by rw [hf.fuse]; decide),zaF h hw]
  have:(qvO w.2.2.2.2.2.1.length w d).2.2.1=0:=by
   cases c1 with
   | ok h0=>exact h0
   | full i hi h0 hj hu hw' hW hF =>
    exfalso;obtain ⟨m,hF⟩:=hF;obtain ⟨s1,s2⟩:=hj.small;rw [List.length_append,List.length_take] at s1 s2;rcases hF with hF | ⟨_,hF⟩
    ·rw [c4,qb0,qf0,List.length_take,List.length_drop] at hF
     rcases hroom with hr | ⟨hr1,hr2⟩
     ·rw [hr] at hF; omega
     ·rw [hr2] at hF; omega
    ·omega
   | lost i m hi hm h0 hj hd hw' hW hf'=>exact absurd hf.fuse hf'
  generalize hC:qvO w.2.2.2.2.2.1.length w d=C at this;obtain ⟨w',d',e,⟨⟩⟩:=C;simp only at this;rw [this]
 ·cases c1 with
  | ok h0 hj hu hw' hW=>exact ⟨hj,⟨hu,hfu⟩,c4,hw',hW,c2,c3⟩
  | full i hi h0 hj hu hw' hW hF =>
   exfalso;obtain ⟨m,hF⟩:=hF;obtain ⟨s1,s2⟩:=hj.small;rw [List.length_append,List.length_take] at s1 s2;rcases hF with hF | ⟨_,hF⟩
   ·rw [c4,qb0,qf0,List.length_take,List.length_drop] at hF
    rcases hroom with hr | ⟨hr1,hr2⟩
    ·rw [hr] at hF; omega
    ·rw [hr2] at hF; omega
   ·omega
  | lost i m hi hm h0 hj hd hw' hW hf'=>exact absurd hf.fuse hf'
def awB (i:Nat):qbB:=(((i+1:Nat):Int),(0,(0,(0,(0,(0,()))))))
def awF (i:Nat):qb4:=(1,(((i+1:Nat):Int),(3,(awB i,()))))
def awL (n:Nat):List qb4:=(List.range n).map awF
def awW (n:Nat):qn5:=(1,(((n+1:Nat):Int),(0,(0,(0,(awL n,()))))))
theorem ze2 (n:Nat):awL (n+1)=awL n++[awF n]:=by unfold awL; rw [List.range_succ,List.map_append]; rfl
theorem qv4 (n:Nat):(awL n).length=n:=by simp [awL]
theorem ze3:∀ n:Nat,n<=9->WOk (awW n) 1 []
 | 0,_=>zaG (base:=0) (row0 1) (Nat.le_refl 1) (by decide) (fun _=>rfl)
 | n+1,h=>by
  have ih:=ze3 n (by omega);have:=(qsA ih (kd:=3) (by decide) (awB n) (by show (awL n).length<32; rw [qv4]; omega) (by show ((n+1:Nat):Int)<=1000000000; omega)).2
  have e:qhU (awW n) 3 (awB n)=awW (n+1):=by
   unfold qhU awW qhT;simp only [ze2];rfl
  rwa [e] at this
theorem aw_put {n:Nat} (h:n<9):ql6 (awW n,(3,(awB n,())))=some (awW (n+1),(0,())):=by
 have ih:=ze3 n (by omega);have hl:(awW n).2.2.2.2.2.1.length=n:=qv4 n;rw [zz1 _ (by rw [hl]; omega),(qsA ih (kd:=3) (by decide) (awB n) (by rw [hl]; omega) (by show ((n+1:Nat):Int)<=1000000000; omega)).1]
 have e:qhU (awW n) 3 (awB n)=awW (n+1):=by
  unfold qhU awW qhT;simp only [ze2];rfl
 rw [e]
theorem awL_row (n:Nat) (h:n<=9):RowJ 1 (awL n):=by
 have hw:=(ze3 n h).r;refine ⟨hw.row,fun f hf=>?_,fun f hf=>by rw [hw.eps f hf]; exact (by decide:(1:Int)<=999999)⟩;obtain ⟨i,hi,rfl⟩:=List.mem_map.1 hf;rw [List.mem_range] at hi;unfold qjB awF awB;simp only;omega
theorem zaH:qp6 ()=some true:=by
 unfold qp6
 have hO:qi3 (([],(5000,((-1),(false,())))),(0,()))=some (wOf 1 [] 0,(d0 5000,([],(0,())))) :=
  qyR (zk6 (by decide)) (qhV 5000) (row0 1) (by decide) (by decide) (by decide) (.inl rfl)
 rw [hO];simp only [Option.bind_some];rw [qf4 (List.range 9) (fun i (w:qn5)=>((i:Int),w)) (fun _ _=>(.inl (awW 9):qn5 ⊕ Bool)) (fun i w=>w=awW i) (b:=awW 0) ?_ ?_ rfl (by rfl)]
 ·simp only [Option.bind_some,eX]
  obtain ⟨w',d',q1,q2,q3,q4,q5,q6,q7,q8⟩:=ze1 (zk6 (room:=5000) (by decide)) (qhV 5000) (ze3 9 (Nat.le_refl 9)) (by
   show 1+0+(awL 9).length<=300; rw [qv4]; decide) (.inr ⟨by show 1+0+(awL 9).length<=10; rw [qv4]; decide,rfl⟩)
  rw [q1];simp only [Option.bind_some];have q2:JrD d' 1 (awL 9):=q2;have q5:WOk w' 1 (awL 9):=q5;have hJ:=awL_row 9 (Nat.le_refl 9);rw [qyR q2 q3 hJ (by rw [qv4]; decide) (by decide) (by decide) (.inr (by rw [qv4]; decide)),qq7 _ q2.right.namesOk];simp only [Option.bind_some]
  have hsegs:qg9 d'=[1,9]:=by
   rw [q2.seg.segs,qp8,qv4];rfl
  have hs:=q5.sure;have hsg:=q5.seg;rw [qv4] at hs hsg;rcases hsg with ⟨e,_⟩ | ⟨_,g1,g2⟩
  ·have:=congrArg List.length e
   rw [qv4] at this;cases this
  ·have hfil:((awL 9).filter (qp9 3)).length=6:=by decide
   have hwo:wOf 1 (awL 9) 3=(2,(10,(9,(9,(1,([],())))))):=rfl;rw [hsegs,hs,g1,g2,hfil,hwo]
   have hr:ql5 (((2,(10,(9,(9,(1,([],())))))):qn5),())=some true:=by
    rw [qmZ _ (by decide),<-hwo,(qu5 _).2 (zaG hJ (Nat.le_refl 1) (by rw [qv4]; decide) (fun e=>by
     have:=congrArg List.length e;rw [qv4] at this;cases this)).r]
   have hnm:decide (qc3 9=ByteArray.mk (List.toArray [108,111,103,46,48,48,48,48,48,48,48,48,48,57]))=true:=by
    refine decide_eq_true ?_
    rw [show (9:Int)=((9:Nat):Int) from rfl,qs2 (by decide) (by decide)];rfl
   simp only [qm5,Option.bind_some,hr];rw [show qj3 [(1:Int),9] 1=some 9 from rfl];simp only [Option.bind_some,hnm];rfl
 ·intro w hw
  rw [hw];rfl
 ·intro i w hi hw
  left;have hi:i<9:=by simpa using hi
  refine ⟨awW (i+1),?_,rfl,rfl⟩;rw [hw,show decide ((i:Int)<9)=true from decide_eq_true (by omega),qb8 (n:=i) (by omega)];simp only [cond_true];rw [show ((((i+1:Nat):Int),((0:Int),((0:Int),((0:Int),((0:Int),((0:Int),())))))):qbB)=awB i from rfl,aw_put hi];rfl
open IntKind
theorem zaQ (x:Int):-9223372036854775808<=IntKind.wrap .i64 x/\IntKind.wrap .i64 x<9223372036854775808:=by
 rw [IntKind.wrap_i64]; omega
theorem zaJ {keep:List Int} (n:ByteArray):∀ {l:List qb1} {i:Nat},∃ k,qh8 (zaI keep i l) n=(qh8 l n).map fun f=>zaM f k
 | [],_=>⟨0,rfl⟩
 | f::l,i=>by
  simp only [zaI,qh8];by_cases h:f.1=n
  ·exact ⟨zaN keep i,by rw [if_pos (show (zaM f (zaN keep i)).1=n from h),if_pos h]; rfl⟩
  ·obtain ⟨k,hk⟩:=zaJ n (l:=l) (i:=i+1)
   exact ⟨k,by rw [if_neg (show ¬ (zaM f (zaN keep i)).1=n from h),if_neg h]; exact hk⟩
theorem zaX {n:ByteArray} {b:List Int} {k:Int}:zaM (n,(b,((b.length:Int),()))) k=(n,(b,((b.length:Int),()))):=by
 have:zaL (n,(b,((b.length:Int),()))) k=(b.length:Int):=by unfold zaL; simp only; omega
 unfold zaM;rw [this];simp only [Int.toNat_natCast,List.take_length]
theorem SegD.back {d:qa3} {k:Nat} {F:List qb4} {b:List Nat} {s:Int} (h:SegD d k F (some (b,s))) (keep:List Int) (hs:0<=s/\s<=b.length):∃ p:Nat,s<=p/\p<=b.length/\SegD (zaI keep 0 d.1,(d.2.1,(-1,(false,())))) k F (some (b.take p,(p:Int))):=by
 obtain ⟨j,hj⟩:=zaJ (keep:=keep) (qc3 ((k+F.length:Nat):Int)) (l:=d.1) (i:=0);rw [h.tail] at hj;simp only [Option.map_some] at hj;have hrg:=h.rng
 have hq:s<=zaL (qc3 ((k+F.length:Nat):Int),(qd8 b,(s,()))) j/\zaL (qc3 ((k+F.length:Nat):Int),(qd8 b,(s,()))) j<=b.length:=by
  unfold zaL;simp only [qb0]; omega
 generalize hK:zaL (qc3 ((k+F.length:Nat):Int),(qd8 b,(s,()))) j=K at hq;refine ⟨K.toNat,by omega,by omega,⟨zaP h.right keep (-1) (by decide),h.full,h.rng,fun n n1 n2=>?_,fun m hm=>?_,fun t ht=>?_⟩⟩
 ·by_cases hn:n=k+F.length
  ·subst hn
   show qh8 (zaI keep 0 d.1) _=_;rw [hj,if_neg (by omega),if_pos rfl];unfold zaM;rw [hK];simp only [Option.map_some,qmK,Option.some.injEq,Prod.mk.injEq,and_true,true_and];omega
  ·obtain ⟨i,hi⟩:=zaJ (keep:=keep) (qc3 (n:Int)) (l:=d.1) (i:=0)
   show qh8 (zaI keep 0 d.1) _=_;rw [hi,h.seg n n1 n2,if_neg hn,if_neg hn];split
   ·rename_i hc
    have hl:(qd8 (qi5 ((F.drop (n-k)).take 8))).length=576:=by
     have:=h.full;rw [qb0,qf0,List.length_take,List.length_drop]; omega
    have:=zaX (n:=qc3 (n:Int)) (b:=qd8 (qi5 ((F.drop (n-k)).take 8))) (k:=i);rw [hl] at this;simp only [Option.map_some];exact congrArg some this
   ·rfl
 ·obtain ⟨i,hi⟩:=zaJ (keep:=keep) m (l:=d.1) (i:=0)
  show qh8 (zaI keep 0 d.1) _=_;rw [hi,h.oth m hm]; rfl
 ·cases ht
  exact qr0 _ (h.bytT _ rfl)
theorem SegD.back0 {d:qa3} {k:Nat} {F:List qb4} (h:SegD d k F none) (keep:List Int):SegD (zaI keep 0 d.1,(d.2.1,(-1,(false,())))) k F none:=by
 refine ⟨zaP h.right keep (-1) (by decide),h.full,h.rng,fun n n1 n2=>?_,fun m hm=>?_,fun t ht=>by cases ht⟩
 ·obtain ⟨i,hi⟩:=zaJ (keep:=keep) (qc3 (n:Int)) (l:=d.1) (i:=0)
  show qh8 (zaI keep 0 d.1) _=_;rw [hi,h.seg n n1 n2];split
  ·rename_i hc
   have hl:(qd8 (qi5 ((F.drop (n-k)).take 8))).length=576:=by
    have:=h.full;rw [qb0,qf0,List.length_take,List.length_drop]; omega
   have:=zaX (n:=qc3 (n:Int)) (b:=qd8 (qi5 ((F.drop (n-k)).take 8))) (k:=i);rw [hl] at this;simp only [Option.map_some];exact congrArg some this
  ·split<;>rfl
 ·obtain ⟨i,hi⟩:=zaJ (keep:=keep) m (l:=d.1) (i:=0)
  show qh8 (zaI keep 0 d.1) _=_;rw [hi,h.oth m hm]; rfl
theorem zaS {A:List qb4} {k:Nat} (h:RowJ k A) (k1:1<=k):A.filter (qp9 0)=A:=by
 rw [List.filter_eq_self];intro f hf;have:=zz7 (qjV h.row f hf);exact decide_eq_true (by omega)
structure LInv (w:qn5) (A all:List qb4):Prop where
 wok:WOk w 1 A
 eq:all=A++w.2.2.2.2.2.1
 row:qu4 all 1 1=true
 inn:∀ f∈all,qjB f
 ep:∀ f∈all,f.1<=w.1
theorem LInv.next {w:qn5} {A all:List qb4} (h:LInv w A all):w.2.1=((all.length+1:Nat):Int):=by
 have h1:=h.wok.sure;have h2:=h.wok.r.len.2;rw [h.eq,List.length_append]; omega
theorem LInv.put {w:qn5} {A all:List qb4} (h:LInv w A all) (hb:all.length<=100000) (b:qbB) (hbi:qjB (qhT w 3 b)) :
  (w.2.2.2.2.2.1.length<32/\putW w 3 b=(qhU w 3 b,(0,()))/\LInv (qhU w 3 b) A (all++[qhT w 3 b]))\/(32<=w.2.2.2.2.2.1.length/\putW w 3 b=(w,(6,()))):=by
 have hn:=h.next;by_cases h32:w.2.2.2.2.2.1.length<32
 ·obtain ⟨p1,p2⟩:=qsA h.wok (kd:=3) (by decide) b h32 (by omega)
  refine .inl ⟨h32,p1,⟨p2,?_,?_,?_,?_⟩⟩
  ·rw [h.eq,List.append_assoc]; rfl
  ·rw [qq6,h.row,Bool.true_and,zbF h.row]
   have hF:qbE (qhT w 3 b)=true:=by
    have:=h.wok.r.ep;unfold qbE qhT;simp only [Bool.and_eq_true,decide_eq_true_eq];omega
   have he:(nxt all 1 1).2<=w.1:=by
    by_cases h0:all=[]
    ·subst h0; exact h.wok.r.ep.1
    ·rw [qgK _ _ _ h0]; exact h.ep _ (List.getLast_mem h0)
   simp only [qu4,Bool.and_true];unfold tak;rw [hF,show (qhT w 3 b).2.1=1+(all.length:Int) by show w.2.1=_; omega,decide_eq_false (by show ¬ w.1<_; omega)];simp
  ·intro f hf
   rcases List.mem_append.1 hf with h1 | h1
   ·exact h.inn f h1
   ·rw [List.mem_singleton] at h1; rw [h1]; exact hbi
  ·intro f hf
   rcases List.mem_append.1 hf with h1 | h1
   ·exact h.ep f h1
   ·rw [List.mem_singleton] at h1; rw [h1]; exact Int.le_refl _
 ·right
  have hR:=h.wok.r;have:=hR.len.1;refine ⟨by omega,?_⟩;unfold putW;rw [if_neg (by rw [(qu5 w).2 hR]; simp),if_neg (by omega),if_pos (by omega)]
def putTp (out:List qb4) (w:qn5) (x:qn5):List qb4×(Int×(Int×(Int×(Int×(Int×(List qb4×qn5)))))):=(out,(w.1,(w.2.1,(w.2.2.1,(w.2.2.2.1,(w.2.2.2.2.1,(w.2.2.2.2.2.1,x)))))))
theorem zbG {w:qn5} (h:RightW w) (x:Int):qjB (qhT w 3 ((IntKind.wrap .i64 x),(0,(0,(0,(0,(0,()))))))):=by
 have h1:=h.ep;have h2:=h.next;have h3:=zaQ x;unfold qjB qhT;simp only;omega
theorem law_put {w:qn5} {A all:List qb4} (h:LInv w A all) (many:Nat) (hm:many<=60) (hb:all.length<=90000) (frm:Int) :
  ∃ w' out,qmJ (w,((many:Int),(frm,())))=some (w',(out,()))/\LInv w' A (all++out)/\w'.1=w.1/\out.length<=many/\(out.length=many\/32<=w'.2.2.2.2.2.1.length):=by
 unfold qmJ;simp only
 obtain ⟨T,hT1,hT2⟩:=quY (σ:=Nat×(List qb4×qn5)) (fun v=>(v.2.1,((v.1:Int),(v.2.2.1,(v.2.2.2.1,(v.2.2.2.2.1,(v.2.2.2.2.2.1,(v.2.2.2.2.2.2.1,(v.2.2.2.2.2.2.2.1,(0,(0,(0,(0,(0,([],()))))))))))))))) (fun v=>v.1<=many/\LInv v.2.2 A (all++v.2.1)/\v.2.2.1=w.1/\v.2.1.length=v.1)
  (fun o:(List qb4×(Int×(Int×(Int×(Int×(Int×(List qb4×qn5))))))) ⊕ (qn5×(List qb4×Unit))=>∃ w' out,(o=.inl (putTp out w' (0,(0,(0,(0,(0,([],())))))))\/o=.inr (w',(out,())))/\LInv w' A (all++out)/\w'.1=w.1/\out.length<=many/\(out.length=many\/32<=w'.2.2.2.2.2.1.length)) (fun v=>many-v.1)
  (step:=fun (v1:((List qb4)×(Int×(Int×(Int×(Int×(Int×(Int×((List qb4)×qn5))))))))) =>
 bif (decide (v1.2.1<(many:Int))) then ((ql6 ((v1.2.2.1,(v1.2.2.2.1,(v1.2.2.2.2.1,(v1.2.2.2.2.2.1,(v1.2.2.2.2.2.2.1,(v1.2.2.2.2.2.2.2.1,())))))),(3,(((IntKind.wrap .i64 (frm+v1.2.1)),(0,(0,(0,(0,(0,())))))),()))))).bind (fun (v2:(qn5×(Int×Unit))) =>
  bif ((v2.2.1 != 0) || ((v2.1.2.2.2.2.2.1.length:Int)==0)) then ((some ((v1.2.2.1,(v1.2.2.2.1,(v1.2.2.2.2.1,(v1.2.2.2.2.2.1,(v1.2.2.2.2.2.2.1,(v1.2.2.2.2.2.2.2.1,())))))),(v1.1,()))).map .inr).map .inr
  else ((qj3 v2.1.2.2.2.2.2.1 (IntKind.wrap .i64 ((v2.1.2.2.2.2.2.1.length:Int)-1)))).bind (fun (v3:qb4) =>
   ((qn7 v1.1 (v3::[]) 72)).bind (fun (v4:(List qb4)) =>
   some (.inl (v4,((IntKind.wrap .i64 (v1.2.1+1)),(v2.1.1,(v2.1.2.1,(v2.1.2.2.1,(v2.1.2.2.2.1,(v2.1.2.2.2.2.1,(v2.1.2.2.2.2.2.1,v1.2.2.2.2.2.2.2.2))))))))))))
 else (some (.inl (v1.1,v1.2.2))).map .inr) (fun v hv=>by
   obtain ⟨i,out,u⟩:=v;obtain ⟨hi,hL,he,hol⟩:=hv;simp only at hi hL he hol;by_cases hlt:i<many
   ·have hwl:=hL.wok.r.len.1
    have hbi:=zbG hL.wok.r (frm+(i:Int));have hP:ql6 (u,(3,(((IntKind.wrap .i64 (frm+(i:Int))),(0,(0,(0,(0,(0,())))))),())))=some (putW u 3 ((IntKind.wrap .i64 (frm+(i:Int))),(0,(0,(0,(0,(0,()))))))):=zz1 u (by omega) 3 _;simp only [ltI hlt,cond_true];rw [show (u.1,(u.2.1,(u.2.2.1,(u.2.2.2.1,(u.2.2.2.2.1,(u.2.2.2.2.2.1,()))))))=u from rfl,hP];simp only [Option.bind_some];rcases hL.put (by rw [List.length_append]; omega) _ hbi with ⟨h32,p1,p2⟩ | ⟨p0,p1⟩
    ·left
     refine ⟨(i+1,(out++[qhT u 3 ((IntKind.wrap .i64 (frm+(i:Int))),(0,(0,(0,(0,(0,()))))))],qhU u 3 ((IntKind.wrap .i64 (frm+(i:Int))),(0,(0,(0,(0,(0,())))))))),?_,⟨hlt,by rw [<-List.append_assoc]; exact p2,he,by rw [List.length_append,hol]; rfl⟩,by simp only; omega⟩;rw [p1];have hne:(qhU u 3 ((IntKind.wrap .i64 (frm+(i:Int))),(0,(0,(0,(0,(0,()))))))).2.2.2.2.2.1≠[]:=by unfold qhU; simp
     have hlast:(qhU u 3 ((IntKind.wrap .i64 (frm+(i:Int))),(0,(0,(0,(0,(0,()))))))).2.2.2.2.2.1.getLast hne=qhT u 3 ((IntKind.wrap .i64 (frm+(i:Int))),(0,(0,(0,(0,(0,())))))):=by
      have e:(qhU u 3 ((IntKind.wrap .i64 (frm+(i:Int))),(0,(0,(0,(0,(0,()))))))).2.2.2.2.2.1=u.2.2.2.2.2.1++[qhT u 3 ((IntKind.wrap .i64 (frm+(i:Int))),(0,(0,(0,(0,(0,()))))))]:=rfl;simp only [e,List.getLast_append,List.getLast_singleton];simp
     have hpl:(qhU u 3 ((IntKind.wrap .i64 (frm+(i:Int))),(0,(0,(0,(0,(0,()))))))).2.2.2.2.2.1.length=u.2.2.2.2.2.1.length+1:=by unfold qhU; simp
     simp only [bne_self_eq_false,Bool.false_or];rw [zaY,decide_eq_false hne,cond_false,qnE hne (by omega),hlast];simp only [Option.bind_some];rw [ql7 (by simp; omega) (by simp [maxLen]; omega)];simp only [Option.bind_some,qb8 (n:=i) (by omega)]
    ·right
     rw [p1];exact ⟨.inr (u,(out,())),rfl,u,out,.inr rfl,hL,he,by omega,.inr p0⟩
   ·right
    have:i=many:=by omega
    subst this;refine ⟨.inl (putTp out u (0,(0,(0,(0,(0,([],()))))))),?_,u,out,.inl rfl,hL,he,by omega,.inl (by omega)⟩;simp only [qxW,cond_false];rfl) (x:=(0,([],w))) ⟨Nat.zero_le _,by rw [List.append_nil]; exact h,rfl,rfl⟩
 obtain ⟨w',out,ho,hL,he,hl⟩:=hT2;refine ⟨w',out,?_,hL,he,hl⟩;refine (congrArg (fun o=>Option.bind o _) hT1).trans ?_
 simp only [Option.bind_some];rcases ho with rfl | rfl<;>rfl
open IntKind
theorem RightD.refuse {d:qa3} (h:RightD d) {f:Int} (hf:-1<=f) (u:Bool):RightD (d.1,(d.2.1,(f,(u,())))):={ h with fuse:=hf }
theorem nxt_ge:∀ {l:List qb4} {lsn ep:Int},qu4 l lsn ep=true->ep<=(nxt l lsn ep).2/\∀ f∈l,f.1<=(nxt l lsn ep).2
 | [],_,_,_=>⟨Int.le_refl _,fun f hf=>by cases hf⟩
 | g::l,lsn,ep,h=>by
  simp only [qu4,Bool.and_eq_true] at h;obtain ⟨_,h2⟩:=zd5 h.1;obtain ⟨i1,i2⟩:=nxt_ge h.2;refine ⟨Int.le_trans h2 i1,fun f hf=>?_⟩;rcases List.mem_cons.1 hf with rfl | hf
  ·exact i1
  ·exact i2 f hf
def StU (w:qn5) (d:qa3) (A all:List qb4):Prop:=LInv w A all/\JrD d 1 A/\d.2.2.2.1=false
def StD (w:qn5) (d:qa3) (A all:List qb4):Prop:=LInv w A all/\d.2.2.2.1=true/\∃ m,LostD d 1 A (w.2.2.2.2.2.1.take m)/\(qe8 A).length+(w.2.2.2.2.2.1.take m).length<=8
theorem LInv.move {w w':qn5} {A all:List qb4} {i:Nat} (h:LInv w A all) (hw:WOk w' 1 (A++w.2.2.2.2.2.1.take i)) (hW:w'.2.2.2.2.2.1=w.2.2.2.2.2.1.drop i) (he:w'.1=w.1):LInv w' (A++w.2.2.2.2.2.1.take i) all :=
 ⟨hw,by rw [hW,List.append_assoc,List.take_append_drop]; exact h.eq,h.row,h.inn,by rw [he]; exact h.ep⟩
theorem zbH:∀ (n:Nat) (w:qn5) (d:qa3),DkW d->DkW (qvO n w d).2.1
 | 0,w,d,h=>h
 | n+1,w,d,h=>by
  unfold qvO;split
  ·exact h
  ·split
   ·exact h.save w
   ·exact zbH n _ _ (h.save w)
theorem batch {w:qn5} {d:qa3} {A all:List qb4} (h:StU w d A all) (hb:all.length<=90000) (hf:d.2.2.1<9223372036854775808) :
  ∃ w' d' e,qf9 (w,(d,()))=some (w',(d',(e,())))/\(∃ A',StU w' d' A' all\/StD w' d' A' all)/\w'.1=w.1/\w'.2.1=w.2.1/\d'.2.1=d.2.1/\d'.2.2.1<9223372036854775808/\(e=0\/e=6\/e=9)/\(e=0->w'.2.2.1=w'.2.1-1):=by
 obtain ⟨hL,hJ,hu⟩:=h;have hall:=hL.eq;have hlen:=congrArg List.length hall;rw [List.length_append] at hlen;obtain ⟨c1,c2,c3,c4,c5⟩:=zaE w.2.2.2.2.2.1.length (Nat.le_refl _) hJ hu hL.wok (by omega);have hD:DkW (qvO w.2.2.2.2.2.1.length w d).2.1:=zbH _ w d ⟨hJ.right,hf⟩;refine ⟨(qvO w.2.2.2.2.2.1.length w d).1,(qvO w.2.2.2.2.2.1.length w d).2.1,(qvO w.2.2.2.2.2.1.length w d).2.2.1,?_,?_,c2,c3,c4,hD.fuse,?_,?_⟩
 ·rw [zk0 w d (by omega) hJ.right.namesOk hf,zaF hJ hL.wok]
 ·cases c1 with
  | ok h0 hj hu' hw hW =>
   refine ⟨_,.inl ⟨?_,hj,hu'⟩⟩;have:=hL.move (i:=w.2.2.2.2.2.1.length) (by rw [List.take_length]; exact hw) (by rw [List.drop_length]; exact hW) c2
   rwa [List.take_length] at this
  | full i hi h0 hj hu' hw hW hF=>exact ⟨_,.inl ⟨hL.move hw hW c2,hj,hu'⟩⟩
  | lost i m hi hm h0 hj hd hw hW hf'=>exact ⟨_,.inr ⟨hL.move hw hW c2,hd,m,by rw [hW]; exact hj,by rw [hW]; exact hm⟩⟩
 ·cases c1 with
  | ok h0=>exact .inl h0
  | full i hi h0=>exact .inr (.inl h0)
  | lost i m hi hm h0=>exact .inr (.inr h0)
 ·intro e0
  cases c1 with
  | ok h0 hj hu' hw hW =>
   have:=hw.r.len.2;rw [hW] at this;simp only [List.length_nil] at this;omega
  | full i hi h0=>rw [h0] at e0; cases e0
  | lost i m hi hm h0=>rw [h0] at e0; cases e0
theorem again {w:qn5} {d:qa3} {A all:List qb4} (h:StU w d A all\/StD w d A all) (hb:all.length<=90000) (he:w.1<=1000) (keep:List Int) (hk:keep.length<=1000) (hfu:d.2.2.1<9223372036854775808) :
  ∃ db d' A',qmI (d,(keep,((-1),())))=some (db,(0,()))/\qi3 (db,(0,()))=some (wOf 1 A' 0,(d',(A',(0,()))))/\LInv (wOf 1 A' 0) A' A'/\JrD d' 1 A'/\Free d'/\d'.2.1=d.2.1/\(∃ rest,all=A'++rest)/\w.2.2.1<=A'.length/\(wOf 1 A' 0).1<=w.1+1/\(wOf 1 A' 0).2.2.1=A'.length:=by
 have hL:LInv w A all:=h.elim (·.1) (·.1);have hlen:=congrArg List.length hL.eq;rw [List.length_append] at hlen
 have hrow:∀ B rest,all=B++rest->RowJ 1 B:=fun B rest e=>by
  have hr:=hL.row;rw [e,qq6,Bool.and_eq_true] at hr;exact ⟨hr.1,fun f hf=>hL.inn f (by rw [e]; simp [hf]),fun f hf=>by have:=hL.ep f (by rw [e]; simp [hf]); omega⟩
 have hsure:=hL.wok.sure
 have fin:∀ B rest,all=B++rest->A.length<=B.length->LInv (wOf 1 B 0) B B/\w.2.2.1<=B.length/\(wOf 1 B 0).1<=w.1+1/\(wOf 1 B 0).2.2.1=B.length:=by
  intro B rest e hAB;have hR:=hrow B rest e;have hBl:B.length<=all.length:=by rw [e,List.length_append]; omega
  have hW:=zaG (base:=0) hR (Nat.le_refl 1) (by omega) (fun _=>rfl);refine ⟨⟨hW,?_,hR.row,hR.inn,fun f hf=>?_⟩,by omega,?_,by rw [hW.sure]; omega⟩
  ·have:(wOf 1 B 0).2.2.2.2.2.1=[]:=by unfold wOf; split<;>rfl
   rw [this,List.append_nil]
  ·have hne:B≠[]:=fun e=>by rw [e] at hf; cases hf
   have hg:=(nxt_ge hR.row).2 f hf;rw [qgK _ _ _ hne] at hg;unfold wOf;rw [List.getLast?_eq_some_getLast hne];show f.1<=(B.getLast hne).1+1;simp only at hg; omega
  ·unfold wOf
   cases hl:B.getLast? with
   | none=>have:=hL.wok.r.ep; show (1:Int)<=w.1+1; omega
   | some f =>
    have:=hL.ep f (by rw [e]; exact List.mem_append.2 (.inl (List.mem_of_getLast? hl)));show f.1+1<=w.1+1;omega
 have hright:RightD d:=by
  rcases h with ⟨_,hJ,_⟩ | ⟨_,_,m,hJ,_⟩
  ·exact hJ.right
  ·exact hJ.right
 have hB:qmI (d,(keep,((-1),())))=some ((zaI keep 0 d.1,(d.2.1,(-1,(false,())))),(0,())):=by
  rw [zbD hright.namesOk keep (by omega) (-1)];unfold backD;rw [if_neg (by rw [(qi4 d).2 hright]; simp)]
 have hBf:Free (zaI keep 0 d.1,(d.2.1,(-1,(false,())))):=⟨rfl,rfl⟩;rcases h with ⟨_,hJ,hu⟩ | ⟨_,hd,m,hJ,hm⟩
 ·-- all lasts
  have hJb:JrD (zaI keep 0 d.1,(d.2.1,(-1,(false,())))) 1 A:=by
   have hS:=hJ.seg;unfold JrD;cases hT:qcI A with
   | none=>rw [hT] at hS; exact hS.back0 keep
   | some t =>
    obtain ⟨b,s⟩:=t;rw [hT] at hS;obtain ⟨rfl,rfl⟩:=qqD hT;obtain ⟨p,p1,p2,p3⟩:=hS.back keep (by rw [qf0]; omega);rw [qf0] at p2;have hp:p=72*(qe8 A).length:=by omega
    rw [hp,List.take_of_length_le (by rw [qf0]; omega)] at p3;exact p3
  obtain ⟨f1,f2,f3,f4⟩:=fin A w.2.2.2.2.2.1 hL.eq (Nat.le_refl _);have hR:=hrow A _ hL.eq;refine ⟨_,_,A,hB,?_,f1,hJb,hBf,rfl,⟨_,hL.eq⟩,f2,f3,f4⟩
  rw [qyR hJb hBf hR (by omega) (by decide) (by decide) (by
   by_cases h0:A=[]
   ·exact .inl h0
   ·exact .inr (by have:=List.length_pos_iff.2 h0; omega)),zaS hR (Nat.le_refl 1)]
 ·-- what was not synced is left in part
  obtain ⟨p,p1,p2,p3⟩:=SegD.back hJ keep (by rw [qf0,List.length_append]; omega);rw [qf0,List.length_append] at p2;have hcl:=qq8 A;have hfl:=qp8 A;generalize hG:w.2.2.2.2.2.1.take m=G at *;have hGall:all=(A++G)++w.2.2.2.2.2.1.drop m:=by rw [<-hG,List.append_assoc,List.take_append_drop]; exact hL.eq
  have hGl:(A++G).length<=all.length:=by
   have:=congrArg List.length hGall;rw [List.length_append] at this;omega
  rw [List.length_append] at hGl;have hRG:=hrow (A++G) _ hGall;have hFC:qdK A++(qe8 A++G)=A++G:=by rw [<-List.append_assoc,qdD]
  have htk:qdK A++(qe8 A++G).take (p / 72)=A++G.take (p / 72-(qe8 A).length):=by
   rw [List.take_append,List.take_of_length_le (l:=qe8 A) (by omega),<-List.append_assoc,qdD]
  obtain ⟨d',g1,g2,g3,_⟩:=zk4 (C:=qe8 A++G) p3 hBf (by rw [hFC]; exact hRG) (by rw [List.length_append]; omega) (by rw [List.length_append]; omega) (by rw [List.length_append]; omega) (base:=0) (by decide) (by decide) (by
   by_cases h0:qdK A++(qe8 A++G).take (p / 72)=[]
   ·exact .inl h0
   ·exact .inr (by have:=List.length_pos_iff.2 h0; omega))
  rw [htk] at g1 g2
  have hpre:all=(A++G.take (p / 72-(qe8 A).length))++(G.drop (p / 72-(qe8 A).length)++w.2.2.2.2.2.1.drop m):=by
   rw [List.append_assoc,<-List.append_assoc (G.take _),List.take_append_drop,<-List.append_assoc]; exact hGall
  obtain ⟨f1,f2,f3,f4⟩:=fin _ _ hpre (by rw [List.length_append]; omega);have hR:=hrow _ _ hpre;refine ⟨_,d',_,hB,?_,f1,g2,⟨by rw [g3],by rw [g3]⟩,by rw [g3],⟨_,hpre⟩,f2,f3,f4⟩;rw [zbA p3.right.namesOk (by show (-1:Int)<9223372036854775808; decide) p3.bytD,g1,zaS hR (Nat.le_refl 1)]
open IntKind
theorem sub0' (a:List qb4) (k:Nat) (h:k<=a.length):qp0 a 0 (k:Int)=some (a.take k):=zaZ a k h
theorem law_begins {a b rest:List qb4} (h:a=b++rest) (hl:b.length<1000000):qdS (a,(b,()))=some true:=by
 unfold qdS;have:b.length<=a.length:=by rw [h,List.length_append]; omega
 simp only;rw [show decide ((a.length:Int) ≥ (b.length:Int))=true from decide_eq_true (by omega),sub0' a b.length this];simp only [cond_true,Option.bind_some];have e:a.take b.length=b:=by rw [h,List.take_left]
 rw [e,zj6 b b hl,(qz3 _ _).2 rfl];rfl
def zbI (all:List qb4) (d:qa3) (w:qn5):List qb4×(List qb1×(Int×(Int×(Bool×qn5)))):=(all,(d.1,(d.2.1,(d.2.2.1,(d.2.2.2.1,w)))))
theorem law_life {bs:List Int} (hbs:bs.length<=12) (hby:∀ x∈bs,0<=x/\x<256) {w:qn5} {d:qa3} {all:List qb4} (h:StU w d all all) (hb:all.length<=5000) (hfu:d.2.2.1<9223372036854775808) :
  ∃ w' d' A' all',(qb9 (fun (v6:((List qb4)×(Int×((List qb1)×(Int×(Int×(Bool×qn5))))))) =>
    bif ((decide (v6.2.1<(bs.length:Int)))&&(!v6.2.2.2.2.2.1)) then ((qj3 bs v6.2.1)).bind (fun (v7:Int) =>
     ((qmJ (v6.2.2.2.2.2.2,((Int.tmod (IntKind.wrap .i64 v7) 20),(v6.2.1,()))))).bind (fun (v8:(qn5×((List qb4)×Unit))) =>
      ((qn7 v6.1 v8.2.1 72)).bind (fun (v9:(List qb4)) =>
      ((qf9 (v8.1,((v6.2.2.1,(v6.2.2.2.1,(v6.2.2.2.2.1,(v6.2.2.2.2.2.1,())))),())))).bind (fun (v10:(qn5×(qa3×(Int×Unit)))) =>
       bif ((((v10.2.2.1 != 0)&&(v10.2.2.1 != 9))&&(v10.2.2.1 != 6)) || ((v10.2.2.1==0)&&((v10.1.2.2.1 != (IntKind.wrap .i64 (v10.1.2.1-1))) || (v10.1.2.1 != v8.1.2.1)))) then ((((some false).map .inr).map .inr).map .inr).map .inr
       else some (.inl (v9,((IntKind.wrap .i64 (v6.2.1+1)),(v10.2.1.1,(v10.2.1.2.1,(v10.2.1.2.2.1,(v10.2.1.2.2.2.1,v10.1)))))))))))
    else (some (.inl (v6.1,v6.2.2))).map .inr) (all,(0,(d.1,(d.2.1,(d.2.2.1,(d.2.2.2.1,w)))))):Option ((List qb4×(List qb1×(Int×(Int×(Bool×qn5))))) ⊕ (((List qb4×(Int×(List qb1×(Int×(Int×(Bool×qn5)))))) ⊕ ((List qb1×(Int×(Int×(Bool×qn5)))) ⊕ Bool)))))=some (.inl (zbI all' d' w')) ∧
   (StU w' d' A' all'\/StD w' d' A' all')/\w'.1=w.1/\d'.2.1=d.2.1/\d'.2.2.1<9223372036854775808/\all'.length<=all.length+240:=by
 obtain ⟨T,hT1,hT2⟩:=quY (σ:=Nat×(List qb4×(qa3×qn5))) (fun v=>(v.2.1,((v.1:Int),(v.2.2.1.1,(v.2.2.1.2.1,(v.2.2.1.2.2.1,(v.2.2.1.2.2.2.1,v.2.2.2))))))) (fun v=>v.1<=bs.length/\(∃ A,StU v.2.2.2 v.2.2.1 A v.2.1\/StD v.2.2.2 v.2.2.1 A v.2.1)/\v.2.2.2.1=w.1/\v.2.2.1.2.1=d.2.1/\v.2.2.1.2.2.1<9223372036854775808/\v.2.1.length<=all.length+20*v.1)
  (fun o:(List qb4×(List qb1×(Int×(Int×(Bool×qn5))))) ⊕ (((List qb4×(Int×(List qb1×(Int×(Int×(Bool×qn5)))))) ⊕ ((List qb1×(Int×(Int×(Bool×qn5)))) ⊕ Bool)))=>∃ w' d' A' all',o=.inl (zbI all' d' w')/\(StU w' d' A' all'\/StD w' d' A' all')/\w'.1=w.1/\d'.2.1=d.2.1/\d'.2.2.1<9223372036854775808/\all'.length<=all.length+240) (fun v=>bs.length-v.1)
  (step:=fun (v6:((List qb4)×(Int×((List qb1)×(Int×(Int×(Bool×qn5))))))) =>
    bif ((decide (v6.2.1<(bs.length:Int)))&&(!v6.2.2.2.2.2.1)) then ((qj3 bs v6.2.1)).bind (fun (v7:Int) =>
     ((qmJ (v6.2.2.2.2.2.2,((Int.tmod (IntKind.wrap .i64 v7) 20),(v6.2.1,()))))).bind (fun (v8:(qn5×((List qb4)×Unit))) =>
      ((qn7 v6.1 v8.2.1 72)).bind (fun (v9:(List qb4)) =>
      ((qf9 (v8.1,((v6.2.2.1,(v6.2.2.2.1,(v6.2.2.2.2.1,(v6.2.2.2.2.2.1,())))),())))).bind (fun (v10:(qn5×(qa3×(Int×Unit)))) =>
       bif ((((v10.2.2.1 != 0)&&(v10.2.2.1 != 9))&&(v10.2.2.1 != 6)) || ((v10.2.2.1==0)&&((v10.1.2.2.1 != (IntKind.wrap .i64 (v10.1.2.1-1))) || (v10.1.2.1 != v8.1.2.1)))) then ((((some false).map .inr).map .inr).map .inr).map .inr
       else some (.inl (v9,((IntKind.wrap .i64 (v6.2.1+1)),(v10.2.1.1,(v10.2.1.2.1,(v10.2.1.2.2.1,(v10.2.1.2.2.2.1,v10.1)))))))))))
    else (some (.inl (v6.1,v6.2.2))).map .inr) (fun v hv=>by
   obtain ⟨i,al,x,u⟩:=v;obtain ⟨hi,⟨A,hA⟩,he,hr,hf,hal⟩:=hv;simp only at hi hA he hr hf hal
   have stop:(decide (((i:Nat):Int)<(bs.length:Int))&&(!x.2.2.2.1))=false->∃ o:(List qb4×(List qb1×(Int×(Int×(Bool×qn5))))) ⊕ (((List qb4×(Int×(List qb1×(Int×(Int×(Bool×qn5)))))) ⊕ ((List qb1×(Int×(Int×(Bool×qn5)))) ⊕ Bool))),o=.inl (zbI al x u)/\∃ w' d' A' all',o=.inl (zbI all' d' w')/\(StU w' d' A' all'\/StD w' d' A' all')/\w'.1=w.1/\d'.2.1=d.2.1/\d'.2.2.1<9223372036854775808/\all'.length<=all.length+240 :=
    fun _=>⟨_,rfl,u,x,A,al,rfl,hA,he,hr,hf,by omega⟩
   by_cases hc:i<bs.length/\x.2.2.2.1=false
   ·left
    obtain ⟨hlt,hup⟩:=hc;have hU:StU u x A al:=hA.resolve_right fun h=>by have:=h.2.1; rw [hup] at this; cases this
    have hx:=hby bs[i] (List.getElem_mem hlt)
    have hmany:Int.tmod (IntKind.wrap .i64 bs[i]) 20=(((bs[i]).toNat%20:Nat):Int):=by
     rw [qa4 (by omega) (by omega)];have:bs[i]=((bs[i].toNat:Nat):Int):=by omega
     conv=>lhs; rw [this]
     rfl
    obtain ⟨w1,out,p1,p2,p3,p4,_⟩:=law_put hU.1 ((bs[i]).toNat%20) (by omega) (by omega) (i:Int);obtain ⟨w2,d2,e,q1,q2,q3,q4,q5,q6,q7,q8⟩:=batch (d:=x) ⟨p2,hU.2.1,hU.2.2⟩ (by rw [List.length_append]; omega) hf;refine ⟨(i+1,(al++out,(d2,w2))),?_,⟨hlt,q2,q3.trans (p3.trans he),q5.trans hr,q6,by simp only [List.length_append]; omega⟩,by simp only; omega⟩;simp only [ltI hlt,hup,Bool.not_false,Bool.and_self,cond_true,qj1 hlt,Option.bind_some,hmany,p1];rw [ql7 (by omega) (by unfold maxLen; omega)];simp only [Option.bind_some];rw [show (x.1,(x.2.1,(x.2.2.1,(false,()))))=x by rw [<-hup],q1];simp only [Option.bind_some];have hn1:=p2.next
    have hchk:((((e != 0)&&(e != 9))&&(e != 6)) || ((e==0)&&((w2.2.2.1 != (IntKind.wrap .i64 (w2.2.1-1))) || (w2.2.1 != w1.2.1))))=false:=by
     rcases q7 with rfl | rfl | rfl
     ·have:=q8 rfl
      rw [q4,hn1,qa4 (by omega) (by rw [List.length_append]; omega),this,q4,hn1];simp
     ·rfl
     ·rfl
    rw [hchk,qb8 (n:=i) (by omega)];rfl
   ·right
    have hcf:(decide (((i:Nat):Int)<(bs.length:Int))&&(!x.2.2.2.1))=false:=by
     rw [Bool.and_eq_false_iff];rcases Classical.not_and_iff_not_or_not.1 hc with h | h
     ·exact .inl (decide_eq_false (by omega))
     ·exact .inr (by simpa using h)
    obtain ⟨o,ho,hq⟩:=stop hcf;refine ⟨o,?_,hq⟩;simp only [hcf,cond_false,ho];rfl) (x:=(0,(all,(d,w)))) ⟨Nat.zero_le _,⟨all,.inl h⟩,rfl,rfl,hfu,by simp only; omega⟩
 obtain ⟨w',d',A',all',rfl,q⟩:=hT2;exact ⟨w',d',A',all',hT1,q⟩
theorem mem_rg {l:List Int} {s:Nat} (h:Rg (.slice s (.int .u8)) l):∀ x∈l,0<=x/\x<256:=by
 intro x hx
 have hm:List.Mem x l:=by
  clear h
  induction l with
  | nil=>cases hx
  | cons g l ih =>
   rcases List.mem_cons.1 hx with rfl | hx
   ·exact .head _
   ·exact .tail _ (ih hx)
 exact rg_u8 (h.2 x hm)
theorem zaU (a:(List Int)×((List Int)×((List Int)×(Int×Unit)))) (h:Rg (qk3 [.slice 1 (.int .u8),.slice 1 (.int .u8),.slice 1 (.int .i64),.int .u16]) a):qiZ a=some true:=by
 obtain ⟨bs,fs,keep,room,⟨⟩⟩:=a;obtain ⟨h1,h2,h3,h4,_⟩:=h;have hby:=mem_rg h1;have hfy:=mem_rg h2;have hroom:0<=room/\room<65536:=wf_u16 h4;unfold qiZ;rw [zaH];simp only [Option.bind_some,Bool.not_true,cond_false];by_cases hl:bs.length<=12/\fs.length<=9/\keep.length<=9
 ·rw [show (((decide ((bs.length:Int) > 12)) || (decide ((fs.length:Int) > 9))) || (decide ((keep.length:Int) > 9)))=false by
   simp only [Bool.or_eq_false_iff,decide_eq_false_iff_not]; omega,qa4 (n:=room) (by omega) (by omega)]
  have hO:qi3 (([],(room,((-1),(false,())))),(0,()))=some (wOf 1 [] 0,(d0 room,([],(0,())))) :=
   qyR (zk6 (by omega)) (qhV room) (row0 1) (by decide) (by decide) (by decide) (.inl rfl)
  rw [hO];simp only [cond_false,Option.bind_some]
  obtain ⟨T,hT1,hT2⟩:=quY (σ:=Nat×(List qb4×(qa3×qn5))) (fun v=>(v.2.1,((v.1:Int),(v.2.2.1.1,(v.2.2.1.2.1,(v.2.2.1.2.2.1,(v.2.2.1.2.2.2.1,v.2.2.2))))))) (fun v=>v.1<=fs.length+1/\LInv v.2.2.2 v.2.1 v.2.1/\JrD v.2.2.1 1 v.2.1/\Free v.2.2.1/\v.2.2.2.1<=(v.1:Int)+1/\v.2.1.length<=240*v.1)
   (fun o:(List qb1×(Int×(Int×(Bool×qn5)))) ⊕ Bool=>∃ (w:qn5) (d:qa3) (all:List qb4),o=.inl (d.1,(d.2.1,(d.2.2.1,(d.2.2.2.1,w))))/\LInv w all all) (fun v=>fs.length+1-v.1)
   (step:=fun (v3:((List qb4)×(Int×((List qb1)×(Int×(Int×(Bool×qn5))))))) =>
  bif (decide (v3.2.1<=(fs.length:Int))) then (
   bif (decide (v3.2.1 > 0)) then ((qj3 fs (IntKind.wrap .i64 (v3.2.1-1)))).bind (fun (v4:Int) =>
    some (v3.2.2.1,(v3.2.2.2.1,((Int.tmod (IntKind.wrap .i64 v4) 40),(v3.2.2.2.2.2.1,())))))
   else some (v3.2.2.1,(v3.2.2.2.1,(v3.2.2.2.2.1,(v3.2.2.2.2.2.1,()))))).bind (fun (v5:qa3) =>
   (
    qb9 (fun (v6:((List qb4)×(Int×((List qb1)×(Int×(Int×(Bool×qn5))))))) =>
    bif ((decide (v6.2.1<(bs.length:Int)))&&(!v6.2.2.2.2.2.1)) then ((qj3 bs v6.2.1)).bind (fun (v7:Int) =>
     ((qmJ (v6.2.2.2.2.2.2,((Int.tmod (IntKind.wrap .i64 v7) 20),(v6.2.1,()))))).bind (fun (v8:(qn5×((List qb4)×Unit))) =>
      ((qn7 v6.1 v8.2.1 72)).bind (fun (v9:(List qb4)) =>
      ((qf9 (v8.1,((v6.2.2.1,(v6.2.2.2.1,(v6.2.2.2.2.1,(v6.2.2.2.2.2.1,())))),())))).bind (fun (v10:(qn5×(qa3×(Int×Unit)))) =>
       bif ((((v10.2.2.1 != 0)&&(v10.2.2.1 != 9))&&(v10.2.2.1 != 6)) || ((v10.2.2.1==0)&&((v10.1.2.2.1 != (IntKind.wrap .i64 (v10.1.2.1-1))) || (v10.1.2.1 != v8.1.2.1)))) then ((((some false).map .inr).map .inr).map .inr).map .inr
       else some (.inl (v9,((IntKind.wrap .i64 (v6.2.1+1)),(v10.2.1.1,(v10.2.1.2.1,(v10.2.1.2.2.1,(v10.2.1.2.2.2.1,v10.1)))))))))))
    else (some (.inl (v6.1,v6.2.2))).map .inr) (v3.1,(0,(v5.1,(v5.2.1,(v5.2.2.1,(v5.2.2.2.1,v3.2.2.2.2.2.2))))))).bind (eX (fun (v11:((List qb4)×((List qb1)×(Int×(Int×(Bool×qn5)))))) =>
    ((qmI ((v11.2.1,(v11.2.2.1,(v11.2.2.2.1,(v11.2.2.2.2.1,())))),(keep,((-1),()))))).bind (fun (v12:qa3×(Int×Unit)) =>
    ((qi3 (v12.1,(0,())))).bind (fun (v13:(qn5×(qa3×((List qb4)×(Int×Unit))))) =>
     (
     bif ((v12.2.1 != 0) || (v13.2.2.2.1 != 0)) then some true
     else ((qdS (v11.1,(v13.2.2.1,())))).bind (fun (v14:Bool) =>
      some (!v14))).bind (fun (v15:Bool) =>
     bif ((v15 || (decide ((v13.2.2.1.length:Int)<v11.2.2.2.2.2.2.2.1))) || (v13.1.2.2.1 != (v13.2.2.1.length:Int))) then ((some false).map .inr).map .inr
     else ((qn7 [] v13.2.2.1 72)).bind (fun (v16:(List qb4)) =>
      some (.inl (v16,((IntKind.wrap .i64 (v3.2.1+1)),(v13.2.1.1,(v13.2.1.2.1,(v13.2.1.2.2.1,(v13.2.1.2.2.2.1,v13.1))))))))))))))
  else (some (.inl v3.2.2)).map .inr) (fun v hv=>by
    obtain ⟨i,all,d,w⟩:=v;obtain ⟨hi,hL,hJ,hF,he,hlen⟩:=hv;simp only at hi hL hJ hF he hlen;by_cases hlt:i<=fs.length
    ·left
     have hfuse:∃ f:Int,-1<=f/\f<9223372036854775808/\(bif (decide ((i:Int) > 0)) then ((qj3 fs (IntKind.wrap .i64 ((i:Int)-1)))).bind (fun (v4:Int) =>
       some (d.1,(d.2.1,((Int.tmod (IntKind.wrap .i64 v4) 40),(d.2.2.2.1,())))))
      else some (d.1,(d.2.1,(d.2.2.1,(d.2.2.2.1,())))))=some (d.1,(d.2.1,(f,(d.2.2.2.1,())))):=by
      by_cases h0:i=0
      ·subst h0
       exact ⟨d.2.2.1,by rw [hF.fuse]; decide,by rw [hF.fuse]; decide,rfl⟩
      ·have hlt':i-1<fs.length:=by omega
       have hx:=hfy fs[i-1] (List.getElem_mem hlt');refine ⟨((fs[i-1].toNat%40:Nat):Int),by omega,by omega,?_⟩;rw [show decide ((i:Int) > 0)=true from decide_eq_true (by omega),qa4 (n:=(i:Int)-1) (by omega) (by omega),show (i:Int)-1=((i-1:Nat):Int) by omega,qj1 hlt'];simp only [cond_true,Option.bind_some];rw [qa4 (by omega) (by omega)]
       have e:Int.tmod fs[i-1] 40=((fs[i-1].toNat%40:Nat):Int):=by
        have:fs[i-1]=((fs[i-1].toNat:Nat):Int):=by omega
        conv=>lhs; rw [this]
        rfl
       rw [e]
     obtain ⟨f,f1,f2,f3⟩:=hfuse;have hJ':JrD (d.1,(d.2.1,(f,(d.2.2.2.1,())))) 1 all:=SegD.same hJ (hJ.right.refuse f1 _) rfl;obtain ⟨w1,d1,A1,all1,a1,a2,a3,a4,a5,a6⟩:=law_life (bs:=bs) (by omega) hby (w:=w) (d:=(d.1,(d.2.1,(f,(d.2.2.2.1,()))))) ⟨hL,hJ',hF.up⟩ (by omega) f2;obtain ⟨db,d2,A2,b1,b2,b3,b4,b5,b6,⟨rest,b7⟩,b8,b9,b10⟩:=again a2 (by omega) (by omega) keep (by omega) a5;have hA2:A2.length<=all1.length:=by rw [b7,List.length_append]; omega
     refine ⟨(i+1,(A2,(d2,wOf 1 A2 0))),?_,⟨by simp only; omega,b3,b4,b5,by simp only; omega,by simp only; omega⟩,by simp only; omega⟩;rw [show decide ((i:Int)<=(fs.length:Int))=true from decide_eq_true (by omega)];simp only [cond_true,f3,Option.bind_some];refine (congrArg (fun o=>Option.bind o _) a1).trans ?_
     simp only [Option.bind_some,eX,zbI];rw [show (d1.1,(d1.2.1,(d1.2.2.1,(d1.2.2.2.1,()))))=d1 from rfl,b1];simp only [Option.bind_some,b2,law_begins b7 (by omega),bne_self_eq_false,Bool.or_self,cond_false,Bool.not_true,Bool.false_or];rw [decide_eq_false (by omega),b10,show ((A2.length:Int) != (A2.length:Int))=false by simp];simp only [Bool.or_self,cond_false];rw [ql7 (by simp; omega) (by simp [maxLen]; omega)];simp only [Option.bind_some,List.nil_append,qb8 (n:=i) (by omega)]
    ·right
     refine ⟨.inl (d.1,(d.2.1,(d.2.2.1,(d.2.2.2.1,w)))),?_,w,d,all,rfl,hL⟩;simp only [decide_eq_false (show ¬ ((i:Int)<=(fs.length:Int)) by omega),cond_false];rfl) (x:=(0,([],(d0 room,wOf 1 [] 0)))) ⟨Nat.zero_le _,⟨zaG (base:=0) (row0 1) (Nat.le_refl 1) (by decide) (fun _=>rfl),rfl,rfl,(fun f hf=>by cases hf),(fun f hf=>by cases hf)⟩,zk6 (by omega),qhV room,by show (1:Int)<=((0:Nat):Int)+1; decide,Nat.zero_le _⟩
  obtain ⟨w,d,all,rfl,hL⟩:=hT2;refine (congrArg (fun o=>Option.bind o _) hT1).trans ?_
  simp only [Option.bind_some,eX];have:=hL.wok.r.len.1;rw [qmZ w (by omega),(qu5 w).2 hL.wok.r];rfl
 ·rw [show (((decide ((bs.length:Int) > 12)) || (decide ((fs.length:Int) > 9))) || (decide ((keep.length:Int) > 9)))=true by
   simp only [Bool.or_eq_true,decide_eq_true_eq]; omega]
  rfl
end Go.AI
