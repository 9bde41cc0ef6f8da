/- What writes: appends, every way. -/
import Derived.Test.YtpolaeonmmolnaaAIs
namespace Go.AI
set_option linter.unusedVariables false
set_option linter.unusedSimpArgs false
section
variable {P : Program} {J : Id → JI} {F : Nat → Prop} {w : World} {H : Hp} {ρ : Opd → AV} {a : Act}

/-- A name is over. -/
theorem kill (hH : HRel J F w H) (b : Id) {blk : Blk} (hb : H b = some blk) : HRel (updJ J b .dead) F w (upd H b (some .dead)) ∧ Ext J F w (updJ J b .dead) F w := by
  have hJb : J b ≠ .none := by
    intro h
    cases hH.blk _ _ hb <;> simp_all
  have hle : ∀ i, (J i).le (updJ J b .dead i) := by
    intro i
    by_cases e : i = b
    · subst e; rw [updJ_same]; cases h : J i <;> simp_all [JI.le]
    · rw [updJ_other _ _ e]; exact JI.le_refl _
  have hlive : ∀ {i g o s c}, updJ J b .dead i = .live g o s c → J i = .live g o s c := by
    intro i g o s c h
    by_cases e : i = b
    · subst e; rw [updJ_same] at h; cases h
    · rwa [updJ_other _ _ e] at h
  have hown : ∀ g, Own (updJ J b .dead) g → Own J g := fun g ⟨i, s, c, h⟩ => ⟨i, s, c, hlive h⟩
  refine ⟨⟨?_, ?_, fun i i' g o s c o' s' c' h1 h2 => hH.inj _ _ _ _ _ _ _ _ _ (hlive h1) (hlive h2), fun g hg => hH.own g (hown g hg), fun i g o s c h => hH.live _ _ _ _ _ (hlive h), hH.fsz⟩,
    ⟨hle, fun _ h => h, fun _ h => .inl h, fun g hg => .inl (hown g hg), fun _ _ _ => rfl, Nat.le_refl _, rfl, rfl, rfl⟩⟩
  · intro i bb hbb
    by_cases e : i = b
    · subst e
      rw [upd_same] at hbb
      cases hbb
      exact .dead (updJ_same _ _ _)
    · rw [upd_other _ _ e] at hbb
      exact (hH.blk i bb hbb).mono hle (updJ_other _ _ e) (fun _ h => h) (fun _ _ => rfl) (fun _ _ _ _ => rfl)
  · intro i hi
    by_cases e : i = b
    · subst e; rw [upd_same] at hi; cases hi
    · rw [upd_other _ _ e] at hi; rw [updJ_other _ _ e]; exact hH.none i hi

/-- A name that is over hands its block to another. -/
theorem rename (hH : HRel J F w H) {b id : Id} {s g c : Nat} {es : List (List DV)} (hb : H b = some (.row s es)) (hJ : J b = .live (some g) true s c) (hid : H id = none) :
    HRel (updJ (updJ J b .dead) id (.live (some g) true s c)) F w (upd (upd H b (some .dead)) id (some (.row s es))) ∧ Ext J F w (updJ (updJ J b .dead) id (.live (some g) true s c)) F w := by
  have hne : id ≠ b := fun e => by rw [e, hb] at hid; cases hid
  have hJid : J id = .none := hH.none id hid
  have hle : ∀ i, (J i).le (updJ (updJ J b .dead) id (.live (some g) true s c) i) := by
    intro i
    by_cases e : i = id
    · subst e; rw [hJid]; exact trivial
    · rw [updJ_other _ _ e]
      by_cases e' : i = b
      · subst e'; rw [updJ_same, hJ]; exact trivial
      · rw [updJ_other _ _ e']; exact JI.le_refl _
  have hlive : ∀ {i g' o s' c'}, updJ (updJ J b .dead) id (.live (some g) true s c) i = .live g' o s' c' → (i = id ∧ g' = some g ∧ o = true ∧ s' = s ∧ c' = c) ∨ (i ≠ id ∧ i ≠ b ∧ J i = .live g' o s' c') := by
    intro i g' o s' c' h
    by_cases e : i = id
    · subst e; rw [updJ_same] at h; cases h; exact .inl ⟨rfl, rfl, rfl, rfl, rfl⟩
    · rw [updJ_other _ _ e] at h
      by_cases e' : i = b
      · subst e'; rw [updJ_same] at h; cases h
      · rw [updJ_other _ _ e'] at h; exact .inr ⟨e, e', h⟩
  have hown : ∀ g', Own (updJ (updJ J b .dead) id (.live (some g) true s c)) g' → Own J g' := by
    rintro g' ⟨i, s', c', h⟩
    rcases hlive h with ⟨_, h1, _⟩ | ⟨_, _, h1⟩
    · cases h1; exact ⟨b, s, c, hJ⟩
    · exact ⟨i, s', c', h1⟩
  refine ⟨⟨?_, ?_, ?_, fun g' hg => hH.own g' (hown g' hg), ?_, hH.fsz⟩, ⟨hle, fun _ h => h, fun _ h => .inl h, fun g' hg => .inl (hown g' hg), fun _ _ _ => rfl, Nat.le_refl _, rfl, rfl, rfl⟩⟩
  · intro i bb hbb
    by_cases e : i = id
    · subst e
      rw [upd_same] at hbb
      cases hbb
      cases hH.blk _ _ hb with
      | row _ _ g' c' cur ty hJ' hg hs hn hm hel hc h1 =>
        rw [hJ] at hJ'; cases hJ'
        exact .row s es g c cur ty (updJ_same _ _ _) hg hs hn hm hel (fun i j x d v h2 h3 h4 => hc i j x d v h2 h3 h4) h1
      | rowNil _ _ hJ' => rw [hJ] at hJ'; cases hJ'
    · rw [upd_other _ _ e] at hbb
      by_cases e' : i = b
      · subst e'
        rw [upd_same] at hbb
        cases hbb
        exact .dead (by rw [updJ_other _ _ e, updJ_same])
      · rw [upd_other _ _ e'] at hbb
        exact (hH.blk i bb hbb).mono hle (by rw [updJ_other _ _ e, updJ_other _ _ e']) (fun _ h => h) (fun _ _ => rfl) (fun _ _ _ _ => rfl)
  · intro i hi
    by_cases e : i = id
    · subst e; rw [upd_same] at hi; cases hi
    · rw [upd_other _ _ e] at hi
      by_cases e' : i = b
      · subst e'; rw [upd_same] at hi; cases hi
      · rw [upd_other _ _ e'] at hi; rw [updJ_other _ _ e, updJ_other _ _ e']; exact hH.none i hi
  · intro i i' g' o1 s1 c1 o2 s2 c2 h1 h2
    rcases hlive h1 with ⟨e1, q1, _⟩ | ⟨e1, f1, q1⟩
    · rcases hlive h2 with ⟨e2, q2, _⟩ | ⟨e2, f2, q2⟩
      · rw [e1, e2]
      · cases q1
        exact absurd (hH.inj _ _ _ _ _ _ _ _ _ q2 hJ) f2
    · rcases hlive h2 with ⟨e2, q2, _⟩ | ⟨e2, f2, q2⟩
      · cases q2
        exact absurd (hH.inj _ _ _ _ _ _ _ _ _ q1 hJ) f1
      · exact hH.inj _ _ _ _ _ _ _ _ _ q1 q2
  · intro i g' o s' c' h
    rcases hlive h with ⟨_, h1, _⟩ | ⟨_, _, h1⟩
    · cases h1; exact hH.live _ _ _ _ _ hJ
    · exact hH.live _ _ _ _ _ h1

/-- Cells of some elements, and of more behind them. -/
theorem Grid.append {s : Nat} {es ys : List (List DV)} {os ns : List Value} (ho : Grid F w s es os) (hl : os.length = es.length * s) (hn : Grid F w s ys ns) (hm : ns.length = ys.length * s) : Grid F w s (es ++ ys) (os ++ ns) ∧ (os ++ ns).length = (es ++ ys).length * s := by
  refine ⟨⟨by simp [hl, hm, Nat.add_mul], ?_, ?_, ?_⟩, by simp [hl, hm, Nat.add_mul]⟩
  · intro x hx
    rcases List.mem_append.1 hx with h | h
    · exact ho.el x h
    · exact hn.el x h
  · intro i j x d v hx hd hv
    by_cases hi : i < es.length
    · rw [List.getElem?_append_left hi] at hx
      have hj : j < s := by have := (List.getElem?_eq_some_iff.1 hd).1; rwa [ho.el x (List.mem_of_getElem? hx)] at this
      have : (i + 1) * s ≤ es.length * s := Nat.mul_le_mul_right _ hi
      rw [Nat.succ_mul] at this
      rw [List.getElem?_append_left (by omega)] at hv
      exact ho.rep i j x d v hx hd hv
    · rw [List.getElem?_append_right (by omega)] at hx
      have : es.length * s ≤ i * s := Nat.mul_le_mul_right _ (by omega)
      rw [List.getElem?_append_right (by omega)] at hv
      refine hn.rep (i - es.length) j x d v hx hd ?_
      rw [← hv, hl, Nat.sub_mul]
      congr 1
      omega
  · intro j v hv
    by_cases hj : j < os.length
    · rw [List.getElem?_append_left hj] at hv; exact ho.one j v hv
    · rw [List.getElem?_append_right (by omega)] at hv; exact hn.one _ v hv

theorem Grid.more {s : Nat} {es : List (List DV)} {os zs : List Value} (ho : Grid F w s es os) (hl : os.length = es.length * s) (hz : ∀ (j : Nat) v, zs[j]? = some v → v.oneCell' = true) : Grid F w s es (os ++ zs) := by
  refine ⟨by simp [hl], ho.el, ?_, ?_⟩
  · intro i j x d v hx hd hv
    have hi := (List.getElem?_eq_some_iff.1 hx).1
    have hj : j < s := by have := (List.getElem?_eq_some_iff.1 hd).1; rwa [ho.el x (List.mem_of_getElem? hx)] at this
    have : (i + 1) * s ≤ es.length * s := Nat.mul_le_mul_right _ hi
    rw [Nat.succ_mul] at this
    rw [List.getElem?_append_left (by omega)] at hv
    exact ho.rep i j x d v hx hd hv
  · intro j v hv
    by_cases hj : j < os.length
    · rw [List.getElem?_append_left hj] at hv; exact ho.one j v hv
    · rw [List.getElem?_append_right (by omega)] at hv; exact hz _ v hv

theorem Grid.world {s : Nat} {es : List (List DV)} {os : List Value} {w' : World} (ho : Grid F w s es os) (h : ∀ d v, Rep F w d v → Rep F w' d v) : Grid F w' s es os :=
  ⟨ho.len, ho.el, fun i j x d v h1 h2 h3 => h d v (ho.rep i j x d v h1 h2 h3), ho.one⟩

theorem zeroCells_one {z : Array Value} (h1 : ∀ (j : Nat) u, z.toList[j]? = some u → u.oneCell' = true) (n : Nat) : ∀ (j : Nat) v, (Builtin.zeroCells z n).toList[j]? = some v → v.oneCell' = true := by
  intro j v hv
  have hlt : j < n * z.size := by have := (List.getElem?_eq_some_iff.1 hv).1; simpa [Builtin.zeroCells] using this
  simp only [Builtin.zeroCells, Array.toList_map, Array.toList_range, List.getElem?_map, List.getElem?_range hlt, Option.map_some, Option.some.injEq] at hv
  subst hv
  have hz : 0 < z.size := by rcases Nat.eq_zero_or_pos z.size with h | h
                             · rw [h] at hlt; simp at hlt
                             · exact h
  have hm : j % z.size < z.size := Nat.mod_lt _ hz
  have := h1 (j % z.size) z[j % z.size] (by simp [hm])
  simpa [getElem!_pos, hm] using this

/-- The new block of an append that must grow. -/
theorem grow_new (hH : HRel J F w H) {id : Id} (hid : H id = none) {e : TypeId} {s c : Nat} {z : Array Value} (hz1 : ∀ (j : Nat) u, z.toList[j]? = some u → u.oneCell' = true) (hzs : z.size = s) {es : List (List DV)} {os : List Value}
    (ho : Grid F w s es os) (hl : os.length = es.length * s) (hm : es.length ≤ maxLen) :
    ∃ J', HRel J' F (w.drew.alloc (.cells (os.toArray ++ Builtin.zeroCells z (grownCap w es.length c e - es.length)) e)) (upd H id (some (.row s es))) ∧ Ext J F w J' F (w.drew.alloc (.cells (os.toArray ++ Builtin.zeroCells z (grownCap w es.length c e - es.length)) e)) ∧
      VRel J' F (w.drew.alloc (.cells (os.toArray ++ Builtin.zeroCells z (grownCap w es.length c e - es.length)) e)) (.row id s 0 es.length) (.slice (some ⟨w.heap.size, 0, none⟩) es.length (grownCap w es.length c e)) := by
  have hge := grownCap_ge w es.length c e
  have hle := grownCap_le_maxLen w es.length c e hm
  have hg : Grid F w.drew s es (os ++ (Builtin.zeroCells z (grownCap w es.length c e - es.length)).toList) := (ho.more hl (zeroCells_one hz1 _)).world (fun d v h => h.mono (fun _ h => h) (fun _ _ => rfl))
  have hsz : (os.toArray ++ Builtin.zeroCells z (grownCap w es.length c e - es.length)).size = grownCap w es.length c e * s := by
    simp only [Array.size_append, List.size_toArray, size_zeroCells, hl, hzs, ← Nat.add_mul]
    congr 1
    omega
  obtain ⟨J', q1, q2, q3⟩ := new_row (e := e) (cur := os.toArray ++ Builtin.zeroCells z (grownCap w es.length c e - es.length)) (cap := grownCap w es.length c e) hH.drew hid (by simpa using hg) hsz hge hle
  exact ⟨J', q1, (ext_drew J F w).trans q2, q3⟩

/-- **An append.** -/
theorem append_sound (hH : HRel J F w H) {t u ty e : TypeId} {i : TypeInfo} {zv : Value} {z : List DV} {du : TypeDesc} (ht : P.underlying t = some (.slice e)) (hi : P.info? e = some i) (hzv : i.zero = some zv) (hz : zeros P e = some z) (hzl : z.length = i.size)
    (hu : P.underlying u = some du) (hdu : (∃ e', du = .slice e') ∨ du = .string) {id : Id} (hid : H id = none) {x : AV} {v y : Value} (hv : VRel J F w x v) {ys : List (List DV)} {news : List Value} (hs : Src P F w i.size ys y news) {r : AV} {H' : Hp}
    (h : appRes H id i.size i.bytes ys x = some (r, H')) :
    ∃ v' w' J', (Builtin.append_ #[t, u] ty #[v, y]).run P w = .ok v' w' ∧ VRel J' F w' r v' ∧ HRel J' F w' H' ∧ Ext J F w J' F w' := by
  have hz1 : ∀ (j : Nat) q, zv.cells.toList[j]? = some q → q.oneCell' = true := by
    unfold zeros at hz
    rw [hi] at hz
    simp only [hzv] at hz
    exact lits_one hz
  have hzs : zv.cells.size = i.size := by
    unfold zeros at hz
    rw [hi] at hz
    simp only [hzv] at hz
    have := lits_length hz
    simp only [Array.length_toList] at this
    omega
  -- a slice without room of which nothing is kept
  have fromNil : ∀ {J1 : Id → JI} {H1 : Hp}, HRel J1 F w H1 → Ext J F w J1 F w → H1 id = none → ∀ p, ys.length * i.bytes ≤ 140737488355328 → ys.length ≤ maxLen →
      ∃ v' w' J', (Builtin.append_ #[t, u] ty #[.slice p 0 0, y]).run P w = .ok v' w' ∧ VRel J' F w' (.row id i.size 0 ys.length) v' ∧ HRel J' F w' (upd H1 id (some (.row i.size ys))) ∧ Ext J F w J' F w' := by
    intro J1 H1 hH1 he1 hid1 p hb hm
    by_cases h0 : ys.length = 0
    · have hys : ys = [] := List.eq_nil_of_length_eq_zero h0
      subst hys
      have hnews : news = [] := by
        have := hs.src.2
        simp at this
        exact this
      obtain ⟨q1, q2⟩ := nil_new hH1 id hid1 i.size 0
      have hrun := append_room (P := P) (w := w) (ty := ty) (p := p) (n := 0) (c := 0) ht hi hu hdu hs.src (by simp) (w' := w) (fun b _ => by rw [hnews]; rfl) (fun _ => rfl)
      exact ⟨_, _, _, hrun, .rowNil id true i.size 0 p (updJ_same _ _ _), q1, he1.trans q2⟩
    · obtain ⟨J', q1, q2, q3⟩ := grow_new (e := e) (c := 0) hH1 hid1 hz1 hzs hs.grid hs.src.2 hm
      have hfc : ∀ w', w'.heap = w.heap → (Builtin.firstCells i.size 0 (.slice p 0 0)).run P w' = .ok ([] : List Value).toArray w' := by
        intro w' _
        cases p with
        | none => simp [Builtin.firstCells]
        | some b => simp [Builtin.firstCells, loadCells, loadCellsFrom]
      have hrun := append_grow (P := P) (w := w) (ty := ty) (p := p) (n := 0) (c := 0) (olds := []) ht hi hzv hu hdu hs.src hfc (by omega) (by unfold maxLen at hm; omega) (by rw [Nat.zero_add]; exact hb)
      simp only [Nat.zero_add, List.nil_append] at hrun
      exact ⟨_, _, J', hrun, q3, q1, he1.trans q2⟩
  cases x <;> simp only [appRes, reduceCtorEq] at h
  case val d =>
    cases d <;> simp only [reduceCtorEq] at h
    split at h
    · rename_i hb
      cases h
      have hv := hv.inv_val
      cases hv
      exact fromNil hH (Ext.refl _ _ _) hid _ hb.1 hb.2
    · cases h
  case row b s' o n =>
    split at h
    · rename_i s'' es hb
      split at h
      · rename_i hc
        obtain ⟨rfl, rfl, rfl, hn, hby, hml⟩ := hc
        cases h
        have hne : id ≠ b := fun e => by rw [e, hb] at hid; cases hid
        cases hv with
        | row _ _ _ g own _ cap hJ hc' =>
          cases hH.blk _ _ hb with
          | row _ _ g' c' cur ty' hJ' hg hsz hn' hm hel hc h1 =>
            rw [hJ] at hJ'; cases hJ'
            rw [Nat.zero_mul, Nat.sub_zero]
            have hcurg : ∀ k, k < n * i.size → cur[k]? = some (cur.getD k undef) := by
              intro k hk
              have : n * i.size ≤ cap * i.size := Nat.mul_le_mul_right _ (by omega)
              have hlt : k < cur.size := by omega
              simp [Array.getD, hlt]
            by_cases hroom : n + ys.length ≤ cap
            · -- in its room
              have hfit : n * i.size + news.length ≤ cur.size := by
                rw [hs.src.2, hsz, ← Nat.add_mul]
                exact Nat.mul_le_mul_right _ hroom
              have hst := run_storeCells_at P g (n * i.size) ty' news 0 cur w hg (by simpa using hfit) (mem_get hs.grid.one)
              simp only [Nat.add_zero] at hst
              have hrun := append_room (P := P) (w := w) (ty := ty) (p := some ⟨g, 0, none⟩) (n := n) (c := cap) ht hi hu hdu hs.src hroom (w' := w.setRow g (splice cur.toList (n * i.size) news).toArray) (fun b hb => by
                cases hb
                rw [Addr.add_mid, Nat.zero_add]
                exact hst) (fun h => by cases h)
              obtain ⟨r1, r2⟩ := rename hH hb hJ hid
              obtain ⟨q1, q2⟩ := set_own (b := id) r1 (updJ_same _ _ _) (cur' := (splice cur.toList (n * i.size) news).toArray) hg (.row i.size (es.take n ++ ys)) (by
                intro hV hR hg'
                have hfit' : n * i.size + news.length ≤ cur.toList.length := by simpa using hfit
                have htl : (es.take n).length = n := by rw [List.length_take]; omega
                refine .row i.size _ g cap _ ty' (updJ_same _ _ _) hg' ?_ (by rw [List.length_append, htl]; exact hroom) hm ?_ ?_ ?_
                · rw [List.size_toArray, splice_length _ _ _ hfit']; simpa using hsz
                · intro x hx
                  rcases List.mem_append.1 hx with h | h
                  · exact hel x (List.mem_of_mem_take h)
                  · exact hs.grid.el x h
                · intro k j x d q h2 h3 h4
                  have h4 : (splice cur.toList (n * i.size) news)[k * i.size + j]? = some q := by simpa using h4
                  rw [splice_get _ _ _ hfit'] at h4
                  by_cases hk : k < n
                  · rw [List.getElem?_append_left (by omega), List.getElem?_take, if_pos hk] at h2
                    have hj : j < i.size := by have := (List.getElem?_eq_some_iff.1 h3).1; rwa [hel x (List.mem_of_getElem? h2)] at this
                    have : (k + 1) * i.size ≤ n * i.size := Nat.mul_le_mul_right _ hk
                    rw [Nat.succ_mul] at this
                    rw [if_pos (by omega)] at h4
                    exact hR d q (hc k j x d q h2 h3 (by simpa using h4))
                  · rw [List.getElem?_append_right (by omega), htl] at h2
                    have hj : j < i.size := by have := (List.getElem?_eq_some_iff.1 h3).1; rwa [hs.grid.el x (List.mem_of_getElem? h2)] at this
                    have hkl := (List.getElem?_eq_some_iff.1 h2).1
                    have h6 : n * i.size ≤ k * i.size := Nat.mul_le_mul_right _ (by omega)
                    have h7 : (k - n + 1) * i.size ≤ ys.length * i.size := Nat.mul_le_mul_right _ hkl
                    rw [Nat.succ_mul, Nat.sub_mul] at h7
                    have := hs.src.2
                    rw [if_neg (by omega), if_pos (by omega)] at h4
                    refine hR d q (hs.grid.rep (k - n) j x d q h2 h3 ?_)
                    rw [← h4, Nat.sub_mul]
                    congr 1
                    omega
                · intro j q h2
                  have h2 : (splice cur.toList (n * i.size) news)[j]? = some q := by simpa using h2
                  rw [splice_get _ _ _ hfit'] at h2
                  split at h2
                  · exact h1 j q (by simpa using h2)
                  · split at h2
                    · exact hs.grid.one _ q h2
                    · exact h1 j q (by simpa using h2))
              refine ⟨_, _, _, hrun, ?_, ?_, r2.trans q2⟩
              · have := VRel.row (J := updJ (updJ J b .dead) id (.live (some g) true i.size cap)) (F := F) (w := w.setRow g (splice cur.toList (n * i.size) news).toArray) id 0 (n + ys.length) g true i.size cap (updJ_same _ _ _) (by omega)
                rwa [Nat.zero_mul, Nat.sub_zero] at this
              · have e1 : upd (upd (upd H b (some .dead)) id (some (.row i.size es))) id (some (.row i.size (es.take n ++ ys))) = upd (upd H b (some .dead)) id (some (.row i.size (es.take n ++ ys))) := by
                  funext k
                  simp only [upd]
                  split <;> rfl
                rw [e1] at q1
                exact q1
            · -- anew
              have hog : Grid F w i.size (es.take n) ((List.range (n * i.size)).map fun k => cur.getD k undef) ∧ ((List.range (n * i.size)).map fun k => cur.getD k undef).length = (es.take n).length * i.size := by
                have htl : (es.take n).length = n := by rw [List.length_take]; omega
                refine ⟨⟨by simp [htl], fun x hx => hel x (List.mem_of_mem_take hx), ?_, ?_⟩, by simp [htl]⟩
                · intro k j x d q h2 h3 h4
                  obtain ⟨hj, rfl⟩ := range_map_get h4
                  rw [List.getElem?_take] at h2
                  split at h2
                  · exact hc k j x d _ h2 h3 (hcurg _ hj)
                  · cases h2
                · intro j q h2
                  obtain ⟨hj, rfl⟩ := range_map_get h2
                  exact h1 j _ (hcurg _ hj)
              have htl : (es.take n ++ ys).length = n + ys.length := by rw [List.length_append, List.length_take]; omega
              obtain ⟨hg2, hl2⟩ := hog.1.append hog.2 hs.grid hs.src.2
              obtain ⟨k1, k2⟩ := kill hH b hb
              obtain ⟨J', q1, q2, q3⟩ := grow_new (e := e) (c := cap) (id := id) k1 (by rw [upd_other _ _ hne]; exact hid) hz1 hzs hg2 hl2 (by rw [htl]; exact hml)
              have hfc : ∀ w', w'.heap = w.heap → (Builtin.firstCells i.size n (.slice (some ⟨g, 0, none⟩) n cap)).run P w' = .ok ((List.range (n * i.size)).map fun k => cur.getD k undef).toArray w' := by
                intro w' hw'
                refine run_firstCells_some (P := P) w' i.size n ⟨g, 0, none⟩ n cap _ (by simp) ?_
                intro j q hq
                obtain ⟨hj, rfl⟩ := range_map_get hq
                have e : w'.cell? ⟨g, 0 + j, none⟩ = w.cell? ⟨g, 0 + j, none⟩ := World.cell?_of_block (by rw [hw'])
                rw [Addr.add_mid, e, cell_of_heap hg, Nat.zero_add]
                exact hcurg j hj
              have hrun := append_grow (P := P) (w := w) (ty := ty) (p := some ⟨g, 0, none⟩) (n := n) (c := cap) ht hi hzv hu hdu hs.src hfc hroom (by unfold maxLen at hml; omega) hby
              rw [htl] at q1 q2 q3
              exact ⟨_, _, J', hrun, q3, q1, k2.trans q2⟩
          | rowNil _ _ hJ' => rw [hJ] at hJ'; cases hJ'
        | rowNil _ own _ cap p hJ =>
          have hes : es = [] := by
            cases hH.blk _ _ hb with
            | row _ _ g' c' cur ty' hJ' => rw [hJ] at hJ'; cases hJ'
            | rowNil _ _ hJ' => rfl
          subst hes
          obtain ⟨k1, k2⟩ := kill hH b hb
          have := fromNil k1 k2 (by rw [upd_other _ _ hne]; exact hid) p (by simpa using hby) (by simpa using hml)
          simpa using this
        | rowEnd _ _ _ _ _ _ _ ho => exact absurd rfl ho
        | rowDead _ _ _ _ p c hJ => 
          exfalso
          cases hH.blk _ _ hb with
          | row _ _ g' c' cur ty' hJ' => rw [hJ] at hJ'; cases hJ'
          | rowNil _ _ hJ' => rw [hJ] at hJ'; cases hJ'
      · cases h
    · cases h

end
end Go.AI
