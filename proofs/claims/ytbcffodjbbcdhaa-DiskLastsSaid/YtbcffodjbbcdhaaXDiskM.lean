/- disk: DiskLasts. -/
import Derived.Test.YtbcffodjbbcdhaaXDiskL
namespace Go.AI
open IntKind

/-- A disk with no fuse, that isn't down. -/
structure FreeD (d : DiskQ) : Prop where
  right : RightD d
  fuse : d.2.2.1 = -1
  down : d.2.2.2.1 = false
theorem free_go {d : DiskQ} (h : FreeD d) {m : List FileQ} (hm : RightD (m, d.2)) : FreeD (goD d (m, d.2)).1 := by
  rw [goD_freeD h.fuse]
  exact ⟨hm, h.fuse, h.down⟩
theorem free_on {d : DiskQ} (h : FreeD d) {ns : List ByteArray} {n : ByteArray} {k : FileQ → DiskQ × (Int × Unit)} (hk : ∀ f, errD d ns = 0 → getF d.1 n = some f → (k f).1.2.2.1 = -1 ∧ (k f).1.2.2.2.1 = false) : (onD d ns n k).1.2.2.1 = -1 ∧ (onD d ns n k).1.2.2.2.1 = false := by
  unfold onD
  split
  · exact ⟨h.fuse, h.down⟩
  · rename_i he
    have he : errD d ns = 0 := by simpa using he
    cases hg : getF d.1 n with
    | none => exact ⟨h.fuse, h.down⟩
    | some f => exact hk f he hg
theorem opD_free {d : DiskQ} (h : FreeD d) (x : DoQ) : FreeD (opD d x).1 := by
  have hR := opD_right h.right x
  have go : ∀ m, (goD d (m, d.2)).1.2.2.1 = -1 ∧ (goD d (m, d.2)).1.2.2.2.1 = false := fun m => by rw [goD_freeD h.fuse]; exact ⟨h.fuse, h.down⟩
  have : (opD d x).1.2.2.1 = -1 ∧ (opD d x).1.2.2.2.1 = false := by
    unfold opD
    split
    · exact free_on h fun f _ _ => go _
    · split
      · exact free_on h fun f _ _ => go _
      · split
        · exact free_on h fun f _ _ => go _
        · split
          · refine free_on h fun f _ _ => ?_
            split
            · exact ⟨h.fuse, h.down⟩
            · exact go _
          · unfold appD
            split
            · exact ⟨h.fuse, h.down⟩
            · split
              · exact ⟨h.fuse, h.down⟩
              · rw [goD_freeL h.fuse]; exact ⟨h.fuse, h.down⟩
  exact ⟨hR, this.1, this.2⟩

/-- A file that begins with bytes that last. -/
def HasWas (was : List Int) (f : FileQ) : Prop := f.2.1.take was.length = was ∧ (was.length : Int) ≤ f.2.2.1
theorem onD_get {d : DiskQ} {ns : List ByteArray} {n m : ByteArray} {k : FileQ → DiskQ × (Int × Unit)} {was : List Int} {g : FileQ} (hg : getF d.1 m = some g) (hw : HasWas was g) (hk : ∀ f, getF d.1 n = some f → ∃ g, getF (k f).1.1 m = some g ∧ HasWas was g) : ∃ g, getF (onD d ns n k).1.1 m = some g ∧ HasWas was g := by
  unfold onD
  split
  · exact ⟨g, hg, hw⟩
  · cases hq : getF d.1 n with
    | none => exact ⟨g, hg, hw⟩
    | some f => exact hk f hq
theorem opD_has {d : DiskQ} (h : FreeD d) {x : DoQ} {m : ByteArray} {was : List Int} {g : FileQ} (hg : getF d.1 m = some g) (hw : HasWas was g) (hx : 3 ≤ Int.tmod x.1 6 → nmD x.2.1 ≠ m ∧ nmD x.2.2.1 ≠ m) : ∃ g, getF (opD d x).1.1 m = some g ∧ HasWas was g := by
  have hs := h.right.srt
  have hgs := h.right.sure g (getF_mem hg)
  unfold opD
  split
  · refine onD_get hg hw fun f hf => ?_
    rw [goD_freeD h.fuse]
    simp only
    rw [getF_putF hs]
    by_cases e : f.1 = m
    · rw [if_pos e]
      have : f = g := by
        have := getF_name hf
        rw [e] at this
        subst this
        rw [hf] at hg
        exact Option.some.inj hg
      subst this
      exact ⟨_, rfl, hw.1, by have := hw.2; simp only; omega⟩
    · rw [if_neg e]
      exact ⟨g, hg, hw⟩
  · split
    · rename_i h3
      obtain ⟨n1, n2⟩ := hx (by omega)
      refine onD_get hg hw fun f hf => ?_
      rw [goD_freeD h.fuse]
      simp only
      rw [getF_putF (delF_srt hs _), getF_delF hs, if_neg n2, if_neg n1]
      exact ⟨g, hg, hw⟩
    · split
      · obtain ⟨n1, n2⟩ := hx (by omega)
        refine onD_get hg hw fun f hf => ?_
        rw [goD_freeD h.fuse]
        simp only
        rw [getF_delF hs, if_neg n1]
        exact ⟨g, hg, hw⟩
      · split
        · obtain ⟨n1, n2⟩ := hx (by omega)
          refine onD_get hg hw fun f hf => ?_
          split
          · exact ⟨g, hg, hw⟩
          · rw [goD_freeD h.fuse]
            simp only
            rw [getF_putF hs, if_neg (show (cutF f x.2.2.2.1).1 ≠ m by rw [show (cutF f x.2.2.2.1).1 = f.1 from rfl, getF_name hf]; exact n1)]
            exact ⟨g, hg, hw⟩
        · unfold appD
          split
          · exact ⟨g, hg, hw⟩
          · split
            · exact ⟨g, hg, hw⟩
            · rw [goD_freeL h.fuse]
              simp only
              rw [getF_putF hs]
              by_cases e : nmD x.2.1 = m
              · rw [if_pos e, e, fileOf_some hg]
                refine ⟨_, rfl, ?_, hw.2⟩
                have hl : was.length ≤ g.2.1.length := by have := hw.2; omega
                rw [List.take_append_of_le_length hl]
                exact hw.1
              · rw [if_neg e]
                exact ⟨g, hg, hw⟩
theorem getF_backL {keep : List Int} {n : ByteArray} : ∀ {l : List FileQ} {i : Nat} {g : FileQ}, getF l n = some g → ∃ k, getF (backL keep i l) n = some (leftF g k)
  | f :: l, i, g, h => by
    simp only [getF, backL] at h ⊢
    split at h
    · rename_i e
      cases h
      exact ⟨_, if_pos e⟩
    · rename_i e
      obtain ⟨k, hk⟩ := getF_backL (keep := keep) (i := i + 1) h
      exact ⟨k, (if_neg e).trans hk⟩
theorem leftF_has {was : List Int} {g : FileQ} (hw : HasWas was g) (h0 : 0 ≤ g.2.2.1) (h1 : g.2.2.1 ≤ g.2.1.length) (k : Int) : HasWas was (leftF g k) := by
  have hk := keepI_in k h0 h1
  have hw2 := hw.2
  refine ⟨?_, ?_⟩
  · unfold leftF
    simp only
    rw [List.take_take, Nat.min_eq_left (by omega)]
    exact hw.1
  · show (was.length : Int) ≤ keepI g k
    omega

theorem loop_run {ε : Type} {script : List DoQ} {F : DiskQ → DoQ → Option DiskQ} (step : Int × DiskQ → Option ((Int × DiskQ) ⊕ ε)) (I : DiskQ → Prop) (Q : ε → Prop) (hl : script.length ≤ 1000)
    (h1 : ∀ i d (_ : i < script.length), I d → (∃ d', step ((i : Int), d) = some (.inl (((i + 1 : Nat) : Int), d')) ∧ I d')) (h2 : ∀ d, I d → ∃ o, step ((script.length : Int), d) = some (.inr o) ∧ Q o) {d : DiskQ} (hd : I d) : ∃ o, loopO step (0, d) = some o ∧ Q o := by
  have _ := F
  have _ := hl
  refine loop_meas (step := step) (fun s : Nat × DiskQ => ((s.1 : Int), s.2)) (fun s => s.1 ≤ script.length ∧ I s.2) Q (fun s => script.length - s.1) ?_ (x := (0, d)) ⟨Nat.zero_le _, hd⟩
  rintro ⟨i, d⟩ ⟨hi, hI⟩
  simp only at hi hI ⊢
  by_cases hlt : i < script.length
  · left
    obtain ⟨d', q1, q2⟩ := h1 i d hlt hI
    exact ⟨(i + 1, d'), q1, ⟨by simp only; omega, q2⟩, by simp only; omega⟩
  · right
    have : i = script.length := by omega
    subst this
    exact h2 d hI

theorem DiskLasts_ok (head tail : List DoQ) (file : Int) (keep : List Int) (hh : ∀ x ∈ head, RgX x) (ht : ∀ x ∈ tail, RgX x) (hf0 : 0 ≤ file) : g_law03_DiskLasts (head, (tail, (file, (keep, ())))) = some true := by
  unfold g_law03_DiskLasts
  rw [awake_ok]
  simp only [Option.bind_some, Bool.not_true, cond_false]
  cases hc : (((decide ((head.length : Int) > 60)) || (decide ((tail.length : Int) > 60))) || (decide ((keep.length : Int) > 9))) with
  | true => rfl
  | false =>
    simp only [Bool.or_eq_false_iff, decide_eq_false_iff_not] at hc
    obtain ⟨⟨c1, c2⟩, c3⟩ := hc
    rw [cond_false, disk_New, if_pos ⟨by decide, by decide⟩, Option.bind_some]
    have nm : ∀ f, g_law03_name (f, ()) = some (nmD f) := fun _ => rfl
    have hF0 : FreeD (([], (65536, (-1, (false, ())))) : DiskQ) := ⟨⟨by decide, by decide, by decide, by simp, List.Pairwise.nil, (fun _ h => by cases h), (fun _ h => by cases h), by simp [usedF]⟩, rfl, rfl⟩
    dsimp only
    have hwf : ∀ {d : DiskQ}, FreeD d → d.2.2.1 < 9223372036854775808 := fun h => by rw [h.fuse]; decide
    generalize hstep : (fun v3 : Int × DiskQ => _) = step
    obtain ⟨d, h1, hFd⟩ : ∃ o, loopO step (0, (([], (65536, (-1, (false, ())))) : DiskQ)) = some o ∧ FreeD o := by
      refine loop_run (script := head) (F := fun d _ => some d) step FreeD FreeD (by omega) ?_ ?_ hF0
      · intro i d hi hI
        subst hstep
        simp only [ltI hi, cond_true, getI_at hi, Option.bind_some]
        have hxi := hh _ (List.getElem_mem hi)
        generalize head[i] = x at hxi
        rw [cut100]
        simp only [Option.bind_some]
        rw [law_doX hI.right (hwf hI) hxi]
        simp only [Option.bind_some]
        rw [wrap_succ (by omega)]
        exact ⟨_, rfl, opD_free hI _⟩
      · intro d hI
        subst hstep
        simp only [ltI', cond_false]
        exact ⟨_, rfl, hI⟩
    clear hstep
    rw [h1]
    simp only [Option.bind_some, nm]
    rw [disk_Sync hFd.right.namesOk (nmD_size _) (hwf hFd), Option.bind_some]
    have hnb := nmD_ok hf0
    have he : errD d [nmD file] = 0 := errD_ok hFd.right hFd.down (by simpa using hnb)
    cases hg : getF d.1 (nmD file) with
    | none =>
      have : syncD d (nmD file) = (d, (7, ())) := by
        unfold syncD onD
        rw [if_neg (by rw [he]; simp), hg]
      rw [this]
      rfl
    | some f =>
      have hfn : f.1 = nmD file := getF_name hg
      have hsy : syncD d (nmD file) = ((putF d.1 (f.1, (f.2.1, ((f.2.1.length : Int), ()))), d.2), (0, ())) := by
        unfold syncD onD
        rw [if_neg (by rw [he]; simp), hg]
        simp only
        rw [goD_freeD hFd.fuse]
      have hR1 := syncD_right hFd.right (nmD file)
      rw [hsy] at hR1
      rw [hsy]
      have hF1 : FreeD (putF d.1 (f.1, (f.2.1, ((f.2.1.length : Int), ()))), d.2) := ⟨hR1, hFd.fuse, hFd.down⟩
      have hg1 : getF (putF d.1 (f.1, (f.2.1, ((f.2.1.length : Int), ())))) (nmD file) = some (f.1, (f.2.1, ((f.2.1.length : Int), ()))) := by rw [getF_putF hFd.right.srt, if_pos hfn]
      generalize putF d.1 (f.1, (f.2.1, ((f.2.1.length : Int), ()))) = L at hR1 hF1 hg1
      generalize d.2 = T at hR1 hF1
      simp only [bne_self_eq_false, cond_false]
      have rd : ∀ {d : DiskQ}, FreeD d → ∀ {g : FileQ}, getF d.1 (nmD file) = some g → g_disk_Read (d, (nmD file, ())) = some (g.2.1, (0, ())) := by
        intro d h g hg
        rw [disk_Read h.right.namesOk (nmD_size _)]
        unfold readD
        rw [if_neg (by rw [errD_ok h.right h.down (by simpa using hnb)]; simp), hg]
      rw [rd hF1 hg1, Option.bind_some]
      simp only
      have hhas : HasWas f.2.1 (f.1, (f.2.1, ((f.2.1.length : Int), ()))) := ⟨List.take_of_length_le (Nat.le_refl _), Int.le_refl _⟩
      generalize hw : f.2.1 = was at hhas hg1
      generalize hstep : (fun v12 : Int × DiskQ => _) = step2
      obtain ⟨o, h2, u, ho⟩ : ∃ o, loopO step2 (0, ((L, T) : DiskQ)) = some o ∧ ∃ u : DiskQ, o = .inl u := by
        refine loop_run (script := tail) (F := fun d _ => some d) step2 (fun d => FreeD d ∧ ∃ g, getF d.1 (nmD file) = some g ∧ HasWas was g) (fun o => ∃ u : DiskQ, o = .inl u) (by omega) ?_ ?_ ⟨hF1, _, hg1, hhas⟩
        · rintro i d hi ⟨hI, g, hgd, hhg⟩
          subst hstep
          simp only [ltI hi, cond_true, getI_at hi, Option.bind_some]
          have hxi := ht _ (List.getElem_mem hi)
          generalize tail[i] = x at hxi
          rw [cut100]
          simp only [Option.bind_some]
          have hws : IntKind.wrap .i64 ((i : Int) + 1) = ((i + 1 : Nat) : Int) := wrap_succ (by omega)
          have e1 : (bif (decide ((Int.tmod x.1 6) ≥ 3)) then (
                  (
                   bif (decide (nmD x.2.1 = nmD file)) then some true
                   else (some (decide (nmD x.2.2.1 = nmD file)))).bind (fun (v19 : Bool) =>
                   some v19))
               else some false) = some (decide (3 ≤ Int.tmod x.1 6 ∧ (nmD x.2.1 = nmD file ∨ nmD x.2.2.1 = nmD file))) := by
            by_cases h3 : 3 ≤ Int.tmod x.1 6
            · rw [decide_eq_true (show Int.tmod x.1 6 ≥ 3 from h3), cond_true]
              by_cases q1 : nmD x.2.1 = nmD file
              · have hp : 3 ≤ Int.tmod x.1 6 ∧ (nmD x.2.1 = nmD file ∨ nmD x.2.2.1 = nmD file) := ⟨h3, .inl q1⟩
                rw [decide_eq_true q1, decide_eq_true hp]; rfl
              · rw [decide_eq_false q1, cond_false, Option.bind_some]
                congr 1
                apply decide_eq_decide.2
                exact ⟨fun h => ⟨h3, .inr h⟩, fun h => h.2.resolve_left q1⟩
            · have hp : ¬ (3 ≤ Int.tmod x.1 6 ∧ (nmD x.2.1 = nmD file ∨ nmD x.2.2.1 = nmD file)) := fun h => h3 h.1
              rw [decide_eq_false (show ¬ Int.tmod x.1 6 ≥ 3 from h3), decide_eq_false hp]; rfl
          rw [e1]
          simp only [Option.bind_some]
          by_cases hsk : 3 ≤ Int.tmod x.1 6 ∧ (nmD x.2.1 = nmD file ∨ nmD x.2.2.1 = nmD file)
          · rw [decide_eq_true hsk]
            simp only [cond_true, Option.bind_some, eX]
            rw [hws]
            exact ⟨_, rfl, hI, g, hgd, hhg⟩
          · rw [decide_eq_false hsk]
            simp only [cond_false]
            rw [law_doX hI.right (hwf hI) hxi]
            simp only [Option.bind_some]
            have hF2 := opD_free hI (cutX x)
            obtain ⟨g2, hg2, hh2⟩ := opD_has hI (x := cutX x) hgd hhg fun h3 => ⟨fun e => hsk ⟨h3, .inl e⟩, fun e => hsk ⟨h3, .inr e⟩⟩
            generalize (opD d (cutX x)).1 = d2 at hF2 hg2
            rw [disk_Back hF2.right.namesOk keep (by omega)]
            simp only [Option.bind_some]
            have hbk : backD d2 keep (-1) = ((backL keep 0 d2.1, (d2.2.1, (-1, (false, ())))), (0, ())) := by
              unfold backD
              rw [if_neg (by rw [(rightB_iff _).2 hF2.right]; simp)]
            rw [hbk]
            have hRb := backD_right hF2.right keep (-1) (by omega)
            have hFb : FreeD (backL keep 0 d2.1, (d2.2.1, (-1, (false, ())))) := ⟨hRb, rfl, rfl⟩
            obtain ⟨k, hgb⟩ := getF_backL (keep := keep) (i := 0) hg2
            have hs2 := hF2.right.sure g2 (getF_mem hg2)
            have hhb := leftF_has hh2 hs2.1 hs2.2 k
            have rb := rd hFb (g := leftF g2 k) hgb
            simp only
            rw [rb]
            simp only [Option.bind_some, bne_self_eq_false, Bool.or_self, cond_false]
            have hlen : was.length ≤ (leftF g2 k).2.1.length := by
              have e := leftF_len k hs2.1 hs2.2
              have h3 : (was.length : Int) ≤ keepI g2 k := hhb.2
              omega
            rw [law_begins_any (leftF g2 k).2.1 was hhb.1.symm hlen]
            simp only [Option.bind_some, Bool.not_true, cond_false]
            cases hz : (Int.tmod x.2.2.2.1 4 == 0) with
            | true =>
              simp only [cond_true, Option.bind_some, eX]
              rw [hws]
              exact ⟨_, rfl, hFb, _, hgb, hhb⟩
            | false =>
              simp only [cond_false, Option.bind_some, eX]
              rw [hws]
              exact ⟨_, rfl, hF2, _, hg2, hh2⟩
        · rintro d ⟨hI, _⟩
          subst hstep
          simp only [ltI', cond_false]
          exact ⟨_, rfl, d, rfl⟩
      rw [h2, ho]
      rfl

theorem pure_DiskLasts : ∀ a, Rg (consS [(.slice 5 shDoQ), (.slice 5 shDoQ), (.int .u8), (.slice 1 (.int .i64))]) a → g_law03_DiskLasts a = some true := by
  rintro ⟨head, tail, file, keep, ⟨⟩⟩ ⟨hh, ht, hf, _⟩
  exact DiskLasts_ok head tail file keep (rgXs hh) (rgXs ht) (rg_u8 hf).1
end Go.AI
