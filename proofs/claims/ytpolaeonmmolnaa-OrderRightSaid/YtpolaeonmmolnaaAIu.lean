/- What reads, and calls. -/
import Derived.Test.YtpolaeonmmolnaaAIt
import Derived.Laws.IdiomStrings
namespace Go.AI
set_option linter.unusedVariables false
set_option linter.unusedSimpArgs false

def compR (P : Program) (o : Oper) : Option ROp :=
  match o.op with
  | .load t x => match cOpd x, P.underlying t with
    | some x', some _ => some (.load (P.cellsOf t) (isAggB P t) x')
    | _, _ => none
  | .convert src dst x => match cOpd x, P.underlying src, P.underlying dst with
    | some x', some (.slice e), some .string => (match P.underlying e with | some (.int .u8) => some (.b2s x') | _ => none)
    | some x', some .string, some (.slice e) => (match P.underlying e with | some (.int .u8) => some (.s2b x') | _ => none)
    | _, _, _ => none
  | .call c => match c.callee, cOpds c.args.toList with
    | .value (.func f), some l => some (.call f l)
    | .value (.tmp t), some l => some (.callv (.t t) l)
    | _, _ => none
  | _ => none

section
variable {P : Program} {J : Id → JI} {F : Nat → Prop} {w : World} {H : Hp} {ρ : Opd → AV} {a : Act} {C : FuncId → Con}

/-- A call arrives at its function. -/
theorem does_enter {o : Oper} {f : FuncId} {args : Array Value} {x : AV} {H' : Hp} (hr : (execOp a.eval o).run P w = .ok (.enter f args) w)
    (h : Calls P f args w fun e w' => ∃ v J' F', e = .returned v ∧ VRel J' F' w' x v ∧ HRel J' F' w' H' ∧ Ext J F w J' F' w') : Does P J F w a o x H' := by
  intro Q
  unfold Oper.wp
  rw [hr, Oper.upon_enter]
  refine h.mono ?_
  rintro e w' ⟨v, J', F', rfl, h1, h2, h3⟩
  exact ⟨v, J', F', rfl, h1, h2, h3⟩

theorem callFunc_run {f : FuncId} (h : Enters P f) (args : Array Value) : (callFunc f args).run P w = .ok (.enter f args) w := by
  obtain ⟨fn, h1, h2, h3⟩ := h
  unfold callFunc
  simp only [Sem.run_bind, run_program, Result.andThen_ok, h1, h2, h3, Bool.false_eq_true, if_false, Sem.run_pure]

theorem elems_shape {x : AV} {v : Value} {s : Nat} {ys : List (List DV)} (hv : VRel J F w x v) (h : elems H s x = some ys) : ∃ p c, v = .slice p ys.length c := by
  unfold elems at h
  split at h
  · split at h
    · cases h
      cases hv.inv_val with
      | sl0 => exact ⟨_, _, rfl⟩
      | sl => exact ⟨_, _, rfl⟩
    · cases h
  · cases h
    cases hv.inv_val
    exact ⟨_, _, rfl⟩
  · rename_i id s' o n
    have key : ∀ {es : List (List DV)}, o + n ≤ es.length → ((es.drop o).take n).length = n := by
      intro es h
      rw [List.length_take, List.length_drop]
      omega
    have hn : ys.length = n := by
      split at h
      · split at h
        · split at h
          · rename_i hc
            cases h
            exact key hc.2
          · cases h
        · split at h
          · rename_i hc
            cases h
            exact key hc.2
          · cases h
        · cases h
      · cases h
    rw [hn]
    cases hv <;> exact ⟨_, _, rfl⟩
  · cases h

theorem bytesD_ints : ∀ {ys : List (List DV)} {l : List UInt8} {news : List Value}, bytesD ys = some l → Grid F w 1 ys news → news.length = ys.length → ∃ ns : List Int, news = ns.map (Value.int .u8) ∧ ns.map (fun n => UInt8.ofNat n.toNat) = l
  | [], l, news, h, _, hn => by
    simp only [bytesD, Option.some.injEq] at h
    subst h
    have : news = [] := List.eq_nil_of_length_eq_zero (by simpa using hn)
    subst this
    exact ⟨[], rfl, rfl⟩
  | y :: ys, l, [], _, _, hn => by simp at hn
  | y :: ys, l, v :: news, h, hg, hn => by
    unfold bytesD at h
    split at h
    · cases ‹_ = []›
    · rename_i n l' he
      cases he
      simp only [Option.map_eq_some_iff] at h
      obtain ⟨l0, h, rfl⟩ := h
      have h0 := hg.rep 0 0 _ (.int .u8 n) v rfl rfl (by simp)
      cases h0
      have hg' : Grid F w 1 ys news := by
        refine ⟨by have := hg.len; simp at this ⊢; omega, fun x hx => hg.el x (List.mem_cons_of_mem _ hx), fun i j x d u h1 h2 h3 => ?_, fun j u hu => hg.one (j + 1) u (by simpa using hu)⟩
        refine hg.rep (i + 1) j x d u (by simpa using h1) h2 ?_
        rw [show (i + 1) * 1 + j = (i * 1 + j) + 1 by omega]
        simpa using h3
      obtain ⟨ns, rfl, rfl⟩ := bytesD_ints h hg' (by simpa using hn)
      exact ⟨n :: ns, rfl, rfl⟩
    · cases h

theorem foldl_bytes : ∀ (ns : List Int) (r : ByteArray), ns.foldl (fun r n => r.push (UInt8.ofNat n.toNat)) r = ⟨r.data ++ (ns.map (fun n => UInt8.ofNat n.toNat)).toArray⟩
  | [], r => by simp
  | n :: l, r => by
    simp only [List.foldl_cons, List.map_cons]
    rw [foldl_bytes l]
    simp [ByteArray.push]

theorem b2s_sound (hH : HRel J F w H) {src dst e : TypeId} (hs : P.underlying src = some (.slice e)) (he : P.underlying e = some (.int .u8)) (hd : P.underlying dst = some .string) {x : AV} {v : Value} (hv : VRel J F w x v)
    {l : List UInt8} (h : (elems H 1 x).bind bytesD = some l) : (convert src dst v).run P w = .ok (.string ⟨l.toArray⟩) w := by
  simp only [Option.bind_eq_some_iff] at h
  obtain ⟨ys, h, hb⟩ := h
  obtain ⟨news, hsrc⟩ := elems_src (P := P) hH hv h
  obtain ⟨p, c, rfl⟩ := elems_shape hv h
  obtain ⟨ns, hns, hl⟩ := bytesD_ints hb hsrc.grid (by simpa using hsrc.src.2)
  rw [run_convert_bytes_string w src dst e p ys.length c hs he hd]
  have hf := (hsrc.src.1 w rfl).2
  cases p with
  | none =>
    simp only [Builtin.firstCells, Sem.run_pure, Result.ok.injEq, and_true] at hf
    have h0 : news = [] := by
      have := congrArg Array.toList hf
      simpa using this.symm
    rw [h0] at hns
    have : ns = [] := by simpa using hns.symm
    subst this
    subst hl
    rfl
  | some a =>
    simp only [Builtin.firstCells, Nat.mul_one] at hf
    rw [hns] at hf
    rw [run_bytesToString w a _ c ns hf, foldl_bytes, hl]
    simp

/-- The bytes of a string lie in a block of their own. -/
theorem s2b_sound (hH : HRel J F w H) {src dst e : TypeId} (hs : P.underlying src = some .string) (hd : P.underlying dst = some (.slice e)) (he : P.underlying e = some (.int .u8)) (b : ByteArray) :
    ∃ v w' F', (convert src dst (.string b)).run P w = .ok v w' ∧ VRel J F' w' (.val (.sl 1 (dBytes b))) v ∧ HRel J F' w' H ∧ Ext J F w J F' w' := by
  have hrun := run_bytes_of_string (P := P) w src dst e b hs hd he
  generalize hcap : grownCap w b.size 0 e = cap at hrun
  have hc : b.size ≤ cap := hcap ▸ grownCap_ge w b.size 0 e
  generalize hfr : ((bytesRow b cap).size, (bytesRow b cap).size + 1) = fr at hrun
  have hgr : Grown w (w.drew.alloc (.cells (bytesRow b cap) e fr)) := ⟨fun g hg => by rw [heap_alloc]; rfl; exact hg, by simp, rfl, rfl, rfl⟩
  obtain ⟨h1, h2⟩ := grown_ext (F' := fun g => g = w.heap.size) hH hgr (fun g hg => .inr (by omega)) (fun g hg => by subst hg; simp)
  refine ⟨_, _, _, hrun, .val _ _ ?_, h1, h2⟩
  have hlen : (dBytes b).length = b.size := by simp only [dBytes, List.length_map, Array.length_toList]; rfl
  have hget : ∀ (i : Nat) e', (dBytes b)[i]? = some e' → ∃ hi : i < b.data.size, e' = [.int .u8 b.data[i].toNat] := by
    intro i e' h3
    simp only [dBytes, List.getElem?_map, Option.map_eq_some_iff] at h3
    obtain ⟨x, h3, rfl⟩ := h3
    have h3 : b.data[i]? = some x := by simpa using h3
    obtain ⟨hi, h3⟩ := Array.getElem?_eq_some_iff.1 h3
    exact ⟨hi, by rw [h3]⟩
  rw [← hlen]
  refine .sl 1 (dBytes b) w.heap.size 0 cap (fun i j => .int .u8 (b.data.getD i 0).toNat) ?_ (by rw [hlen]; exact hc) ?_ (.inr rfl) ?_ ?_
  · intro x hx
    simp only [dBytes, List.mem_map] at hx
    obtain ⟨y, _, rfl⟩ := hx
    rfl
  · intro x hx d hd
    simp only [dBytes, List.mem_map] at hx
    obtain ⟨y, _, rfl⟩ := hx
    simp only [List.mem_singleton] at hd
    subst hd
    rfl
  · intro i j x d h3 h4
    obtain ⟨hi, rfl⟩ := hget i x h3
    have hj : j = 0 := by have := (List.getElem?_eq_some_iff.1 h4).1; simpa using this
    subst hj
    have hnew : (w.drew.alloc (.cells (bytesRow b cap) e fr)).heap[w.heap.size]? = some (.cells (bytesRow b cap) e fr) := heap_alloc_new w.drew _
    rw [cell_of_heap hnew]
    have : (bytesRow b cap)[i]? = some (.int .u8 b.data[i].toNat) := by
      unfold bytesRow
      rw [Array.getElem?_append_left (by simpa using hi)]
      rw [Array.getElem?_map, Array.getElem?_eq_getElem hi]
      rfl
    simp only [Nat.zero_add, Nat.mul_one, Nat.add_zero]
    rw [this]
    simp only [Array.getD, hi, dif_pos]
    rfl
  · intro i j x d h3 h4
    obtain ⟨hi, rfl⟩ := hget i x h3
    have hj : j = 0 := by have := (List.getElem?_eq_some_iff.1 h4).1; simpa using this
    subst hj
    simp only [List.getElem?_cons_zero, Option.some.injEq] at h4
    subst h4
    simp only [Array.getD, hi]
    exact .int _ _

/-- A row that a function made anew. -/
theorem fresh_row (hH : HRel J F w H) {id : Id} (hid : H id = none) {w' : World} (hg : Grown w w') {v : Value} {s : Nat} {es : List (List DV)} (h : (es = [] ∧ ∃ p, v = .slice p 0 0) ∨ ∃ g cap cur e', v = .slice (some ⟨g, 0, none⟩) es.length cap ∧ w.heap.size ≤ g ∧ w'.heap[g]? = some (.cells cur e' (0, 0)) ∧
      cur.size = cap * s ∧ es.length ≤ cap ∧ cap ≤ maxLen ∧ (∀ x ∈ es, x.length = s) ∧ (∀ (i j : Nat) x d v, es[i]? = some x → x[j]? = some d → cur[i * s + j]? = some v → Rep F w' d v) ∧ ∀ (j : Nat) v, cur[j]? = some v → v.oneCell' = true) :
    ∃ J' F', VRel J' F' w' (.row id s 0 es.length) v ∧ HRel J' F' w' (upd H id (some (.row s es))) ∧ Ext J F w J' F' w' := by
  obtain ⟨h1, h2⟩ := grown_ext (F' := fun _ => False) hH hg (by simp) (by simp)
  have hF : (fun g => F g ∨ False) = F := by funext g; simp
  rw [hF] at h1 h2
  rcases h with ⟨rfl, p, rfl⟩ | ⟨g, cap, cur, e', rfl, hgs, hcur, hsz, hn, hm, hel, hrep, hone⟩
  · obtain ⟨h3, h4⟩ := nil_new h1 id hid s 0
    exact ⟨_, F, .rowNil id true s 0 p (updJ_same _ _ _), h3, h2.trans h4⟩
  · have hJn : J id = .none := hH.none id hid
    have hle : ∀ i, (J i).le (updJ J id (.live (some g) true s cap) i) := by
      intro i
      by_cases e : i = id
      · subst e; rw [hJn]; exact trivial
      · rw [updJ_other _ _ e]; exact JI.le_refl _
    have hgl : g < w'.heap.size := by
      rcases Nat.lt_or_ge g w'.heap.size with h | h
      · exact h
      · rw [Array.getElem?_eq_none h] at hcur; cases hcur
    refine ⟨updJ J id (.live (some g) true s cap), F, ?_, ⟨?_, ?_, ?_, ?_, ?_, h1.fsz⟩, ⟨hle, fun _ h => h, fun _ h => .inl h, ?_, h2.heap, h2.size, h2.os, h2.tape, h2.output⟩⟩
    · have := VRel.row (J := updJ J id (.live (some g) true s cap)) (F := F) (w := w') id 0 es.length g true s cap (updJ_same _ _ _) (by omega)
      simpa using this
    · intro i bb hbb
      by_cases e : i = id
      · subst e
        rw [upd_same] at hbb
        cases hbb
        exact .row s es g cap cur e' (updJ_same _ _ _) hcur hsz hn hm hel hrep hone
      · rw [upd_other _ _ e] at hbb
        exact (h1.blk i bb hbb).mono hle (updJ_other _ _ e) (fun _ h => h) (fun _ _ => rfl) (fun _ _ _ _ => rfl)
    · intro i hi
      by_cases e : i = id
      · subst e; rw [upd_same] at hi; cases hi
      · rw [upd_other _ _ e] at hi; rw [updJ_other _ _ e]; exact hH.none i hi
    · intro i i' k o1 s1 c1 o2 s2 c2 q1 q2
      by_cases e : i = id
      · by_cases e' : i' = id
        · rw [e, e']
        · subst e
          rw [updJ_same] at q1
          rw [updJ_other _ _ e'] at q2
          cases q1
          have := hH.live _ _ _ _ _ q2
          omega
      · by_cases e' : i' = id
        · subst e'
          rw [updJ_same] at q2
          rw [updJ_other _ _ e] at q1
          cases q2
          have := hH.live _ _ _ _ _ q1
          omega
        · rw [updJ_other _ _ e] at q1
          rw [updJ_other _ _ e'] at q2
          exact hH.inj _ _ _ _ _ _ _ _ _ q1 q2
    · intro k hk
      rcases own_upd hk with q | ⟨s', c', q⟩
      · exact hH.own k q
      · cases q
        intro hFk
        have := hH.fsz _ hFk
        omega
    · intro i k o1 s1 c1 q1
      by_cases e : i = id
      · subst e; rw [updJ_same] at q1; cases q1; exact hgl
      · rw [updJ_other _ _ e] at q1; exact h1.live _ _ _ _ _ q1
    · intro k hk
      rcases own_upd hk with q | ⟨s', c', q⟩
      · exact .inl q
      · cases q; exact .inr hgs

theorem fix_other {ids : List Id} {H' : Hp} (h : fix H ids = some H') {id : Id} (hid : ids.contains id = false) : H' id = H id := by
  cases ids with
  | nil => simp only [fix, Option.some.injEq] at h; rw [h]
  | cons i l =>
    simp only [fix] at h
    split at h
    · simp only [Option.some.injEq] at h
      rw [← h]
      simp only [hid, Bool.false_eq_true, if_false]
    · cases h

/-- **A call.** -/
theorem semC_sound (hC : ConOk P C) (hH : HRel J F w H) {id : Id} {f : FuncId} {avs : List AV} {vs : List Value} (hv : vs.length = avs.length ∧ ∀ (j : Nat) y v, avs[j]? = some y → vs[j]? = some v → VRel J F w y v)
    {x : AV} {H' : Hp} (h : semC C H id f avs = some (x, H')) : Enters P f ∧ Calls P f vs.toArray w fun e w' => ∃ v J' F', e = .returned v ∧ VRel J' F' w' x v ∧ HRel J' F' w' H' ∧ Ext J F w J' F' w' := by
  have hf := hC f
  unfold semC at h
  split at h
  · rename_i spec hcf
    rw [hcf] at hf
    split at h
    · rename_i x' ids hcd
      simp only [Option.map_eq_some_iff, Prod.mk.injEq] at h
      obtain ⟨H1, h, rfl, rfl⟩ := h
      exact ⟨hf.1, callD_sound hH hf hv hcd h⟩
    · cases h
  · rename_i s spec hcf
    rw [hcf] at hf
    split at h
    · rename_i ds ids hd
      split at h
      · rename_i es hes
        split at h
        · cases h
        · rename_i hno
          simp only [Option.map_eq_some_iff, Prod.mk.injEq] at h
          obtain ⟨H1, hfix, rfl, rfl⟩ := h
          have hid : H id = none := by
            cases hh : H id with
            | none => rfl
            | some b => exact absurd (.inl (by simp [hh])) hno
          have hnc : ids.contains id = false := by
            cases hh : ids.contains id with
            | false => rfl
            | true => exact absurd (.inr hh) hno
          obtain ⟨hl, hrep⟩ := (argD_rel hH 99).2 _ _ _ hd
          have hargs : RepL (With J F ids) w ds vs := by
            refine ⟨by rw [hv.1, hl], fun j d v h1 h2 => ?_⟩
            have hj : j < avs.length := by rw [← hl]; exact (List.getElem?_eq_some_iff.1 h1).1
            exact hrep j _ d v (List.getElem?_eq_getElem hj) h1 (hv.2 j _ v (List.getElem?_eq_getElem hj) h2)
          have hsz : ∀ g, With J F ids g → g < w.heap.size := by
            rintro g (hg | ⟨i, _, s, c, h1⟩)
            · exact hH.fsz g hg
            · exact hH.live _ _ _ _ _ h1
          refine ⟨hf.1, (hf.2 ds es hes (With J F ids) w vs hargs hsz).mono ?_⟩
          rintro e w' ⟨v, he, hg, hrow⟩
          obtain ⟨J1, F1, hH1, he1, hle⟩ := fix_sound hH hfix
          have hid1 : H1 id = none := by
            rw [fix_other hfix (by split; rfl; exact hnc)]
            exact hid
          have hrep' : ∀ x ∈ es, ∀ d ∈ x, ∀ u, Rep (With J F ids) w' d u → Rep F1 w' d u := by
            intro x hx d hd u hu
            by_cases hall : es.all (·.all DV.scalar) = true
            · exact hu.scalar (List.all_eq_true.1 (List.all_eq_true.1 hall x hx) d hd)
            · rw [if_neg hall] at hle
              exact hu.mono hle (fun _ _ => rfl)
          obtain ⟨J', F', q1, q2, q3⟩ := fresh_row (id := id) (s := s) (es := es) hH1 hid1 hg (hrow.imp (fun h => h) (fun ⟨g, cap, cur, e', r1, r2, r3, r4, r5, r6, r7, r8, r9⟩ =>
            ⟨g, cap, cur, e', r1, r2, r3, r4, r5, r6, r7, fun i j x d u k1 k2 k3 => hrep' x (List.mem_of_getElem? k1) d (List.mem_of_getElem? k2) u (r8 i j x d u k1 k2 k3), r9⟩))
          exact ⟨v, J', F', he, q1, q2, he1.trans q3⟩
      · cases h
    · cases h
  · rename_i spec hcf
    rw [hcf] at hf
    exact ⟨hf.1, hf.2 id avs H x H' h J F w vs hH hv⟩
  · cases h

theorem args_rel (hr : ORel J F w ρ a) {xs : Array Operand} {ys : List Opd} (hc : cOpds xs.toList = some ys) : (xs.map a.eval).toList.length = (ys.map ρ).length ∧ ∀ (j : Nat) y v, (ys.map ρ)[j]? = some y → (xs.map a.eval).toList[j]? = some v → VRel J F w y v := by
  obtain ⟨hl, h⟩ := cOpds_rel hr hc
  refine ⟨by simp [hl], fun j y v h1 h2 => ?_⟩
  simp only [List.getElem?_map, Option.map_eq_some_iff, Array.toList_map] at h1 h2
  obtain ⟨y0, h1, rfl⟩ := h1
  obtain ⟨x0, h2, rfl⟩ := h2
  exact h j x0 y0 h2 h1

theorem append_rel {as bs : List AV} {us vs : List Value} (h : us.length = as.length ∧ ∀ (j : Nat) y v, as[j]? = some y → us[j]? = some v → VRel J F w y v) (h' : vs.length = bs.length ∧ ∀ (j : Nat) y v, bs[j]? = some y → vs[j]? = some v → VRel J F w y v) :
    (us ++ vs).length = (as ++ bs).length ∧ ∀ (j : Nat) y v, (as ++ bs)[j]? = some y → (us ++ vs)[j]? = some v → VRel J F w y v := by
  refine ⟨by simp [h.1, h'.1], fun j y v h1 h2 => ?_⟩
  by_cases hj : j < as.length
  · rw [List.getElem?_append_left hj] at h1
    rw [List.getElem?_append_left (by omega)] at h2
    exact h.2 j y v h1 h2
  · rw [List.getElem?_append_right (by omega)] at h1
    rw [List.getElem?_append_right (by omega), h.1] at h2
    exact h'.2 _ y v h1 h2

/-- **What reads, and calls.** -/
theorem read_sound (hC : ConOk P C) (hH : HRel J F w H) (hr : ORel J F w ρ a) {ρp : Bool → Opd → AV} {o : Oper} {p : ROp} (hc : compR P o = some p) {ns id : Id} {x : AV} {H' : Hp} (hs : semE C H ρ ρp ns id (.r p) = some (x, H')) : Does P J F w a o x H' := by
  unfold compR at hc
  split at hc
  · rename_i t y ho
    split at hc
    · rename_i y' d hy ht
      cases hc
      simp only [semE, semR, Option.map_eq_some_iff, Prod.mk.injEq] at hs
      obtain ⟨z, hz, rfl, rfl⟩ := hs
      obtain ⟨u, hu, hv⟩ := load_sound hH ht (hr.ev hy) hz
      exact (yields_of (s := Instr.loadAt t (a.eval y)) (by unfold execOp; simp only [ho]) hu hv).does hH
    · cases hc
  · rename_i src dst y ho
    split at hc
    · rename_i y' e hy hsrc hdst
      split at hc
      · rename_i he
        cases hc
        simp only [semE, semR, Option.map_eq_some_iff, Prod.mk.injEq] at hs
        obtain ⟨z, ⟨l, hl, rfl⟩, rfl, rfl⟩ := hs
        have := b2s_sound hH hsrc he hdst (hr.ev hy) hl
        exact (yields_of (s := convert src dst (a.eval y)) (by unfold execOp; simp only [ho]) this (.val _ _ (.str _))).does hH
      · cases hc
    · rename_i y' e hy hsrc hdst
      split at hc
      · rename_i he
        cases hc
        simp only [semE, semR, Option.map_eq_some_iff, Prod.mk.injEq] at hs
        obtain ⟨z, hz, rfl, rfl⟩ := hs
        split at hz
        · rename_i b hb
          cases hz
          have hv := hr.ev hy
          rw [hb] at hv
          obtain ⟨v, w', F', h1, h2, h3, h4⟩ := s2b_sound hH hsrc hdst he b
          refine does_run ?_ h2 h3 h4
          unfold execOp
          simp only [ho, hv.str, Sem.run_bind, h1, Result.andThen_ok, Sem.run_pure]
        · cases hz
      · cases hc
    · cases hc
  · rename_i c ho
    split at hc
    · rename_i f l hcal hargs
      cases hc
      simp only [semE] at hs
      obtain ⟨h1, h2⟩ := semC_sound hC hH (args_rel hr hargs) hs
      refine does_enter (args := (c.args.map a.eval)) ?_ (by rw [Array.toArray_toList] at h2; exact h2)
      unfold execOp resolve
      simp only [ho, hcal, Act.eval, Deferred.ofValue, Sem.run_bind, Sem.run_pure, Result.andThen_ok, invoke]
      have := callFunc_run (w := w) h1 (c.args.map a.eval)
      simpa using this
    · rename_i t l hcal hargs
      cases hc
      simp only [semE] at hs
      have hv := hr.ev (x := .tmp t) (y := .t t) rfl
      have go : ∀ (f : FuncId) (vs : List Value), a.eval (.tmp t) = .func (.func f) #[] vs.toArray → ∀ avs, (vs.length = avs.length ∧ ∀ (j : Nat) y v, avs[j]? = some y → vs[j]? = some v → VRel J F w y v) → semC C H id f (l.map ρ ++ avs) = some (x, H') → Does P J F w a o x H' := by
        intro f vs hev avs hav hs
        obtain ⟨h1, h2⟩ := semC_sound hC hH (append_rel (args_rel hr hargs) hav) hs
        refine does_enter (args := (c.args.map a.eval ++ vs.toArray)) ?_ (by
          have e : ((c.args.map a.eval).toList ++ vs).toArray = c.args.map a.eval ++ vs.toArray := by apply Array.ext'; simp
          rw [← e]; exact h2)
        unfold execOp resolve
        simp only [ho, hcal, hev, Deferred.ofValue, Sem.run_bind, Sem.run_pure, Result.andThen_ok, invoke]
        have := callFunc_run (w := w) h1 (c.args.map a.eval ++ vs.toArray)
        simpa using this
      generalize hev : a.eval (.tmp t) = fv at hv
      split at hs
      · rename_i f caps hf
        rw [hf] at hv
        cases hv.inv_val with
        | fn _ _ vs hl hrep =>
        exact go f vs hev (caps.map .val) ⟨by simp [hl], fun j y v q1 q2 => by
          simp only [List.getElem?_map, Option.map_eq_some_iff] at q1
          obtain ⟨d, q1, rfl⟩ := q1
          exact .val _ _ (hrep j d v q1 q2)⟩ hs
      · rename_i f caps hf
        rw [hf] at hv
        cases hv with
        | clo _ _ vs hl hrep => exact go f vs hev caps ⟨hl, hrep⟩ hs
      · cases hs
    · cases hc
  · cases hc

end
end Go.AI
