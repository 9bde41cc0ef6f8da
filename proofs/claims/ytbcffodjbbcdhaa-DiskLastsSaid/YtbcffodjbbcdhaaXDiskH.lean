/- disk: the power comes again: DiskBack. -/
import Derived.Test.YtbcffodjbbcdhaaXDiskG
namespace Go.AI
open IntKind

theorem law_begins (a : List Int) (n : Nat) (h : n ≤ a.length) : g_law03_begins (a, (a.take n, ())) = some true := by
  unfold g_law03_begins
  have e : (a.take n).length = n := by rw [List.length_take]; omega
  dsimp only
  rw [e, decide_eq_true (by omega), cond_true]
  have := subI_nat a (a := 0) (b := n) (Nat.zero_le _) h
  rw [show ((0 : Nat) : Int) = 0 from rfl] at this
  rw [this]
  simp
theorem sub0 (a : List Int) (k : Int) (h0 : 0 ≤ k) (h1 : k ≤ a.length) : subI a 0 k = some (a.take k.toNat) := by
  have := subI_nat a (a := 0) (b := k.toNat) (Nat.zero_le _) (by omega)
  rw [Int.toNat_of_nonneg h0] at this
  simpa using this

theorem backL_mem {keep : List Int} {g : FileQ} : ∀ {l : List FileQ} {i : Nat}, g ∈ backL keep i l → ∃ f ∈ l, ∃ k, g = leftF f k
  | f :: l, i, h => by
    simp only [backL] at h
    rcases List.mem_cons.1 h with rfl | h
    · exact ⟨f, List.mem_cons_self, _, rfl⟩
    · obtain ⟨f', h1, k, h2⟩ := backL_mem h
      exact ⟨f', List.mem_cons_of_mem _ h1, k, h2⟩
theorem backL_srt {keep : List Int} : ∀ {l : List FileQ} {i : Nat}, Srt l → Srt (backL keep i l)
  | [], _, _ => List.Pairwise.nil
  | f :: l, i, h => by
    simp only [backL]
    refine List.pairwise_cons.2 ⟨fun g hg => ?_, backL_srt h.tail⟩
    obtain ⟨f', h1, k, rfl⟩ := backL_mem hg
    exact h.head f' h1
theorem leftF_len {f : FileQ} (k : Int) (h0 : 0 ≤ f.2.2.1) (h1 : f.2.2.1 ≤ f.2.1.length) : ((leftF f k).2.1.length : Int) = keepI f k := by
  have := keepI_in k h0 h1
  unfold leftF
  simp only [List.length_take]
  omega
theorem backL_used {keep : List Int} : ∀ {l : List FileQ} {i : Nat}, usedF (backL keep i l) ≤ usedF l
  | [], _ => Nat.le_refl _
  | f :: l, i => by
    simp only [backL, usedF]
    have := backL_used (keep := keep) (l := l) (i := i + 1)
    have h2 : (leftF f (keepAt keep i)).2.1.length ≤ f.2.1.length := by
      unfold leftF
      simp only [List.length_take]
      omega
    omega
theorem backD_right {d : DiskQ} (h : RightD d) (keep : List Int) (fuse : Int) (hf : -1 ≤ fuse) : RightD (backL keep 0 d.1, (d.2.1, (fuse, (false, ())))) where
  room0 := h.room0
  room1 := h.room1
  fuse := hf
  len := by simp only [backL_length]; exact h.len
  srt := backL_srt h.srt
  names := fun g hg => by
    obtain ⟨f, h1, k, rfl⟩ := backL_mem hg
    exact h.names f h1
  sure := fun g hg => by
    obtain ⟨f, h1, k, rfl⟩ := backL_mem hg
    have hs := h.sure f h1
    have hk := keepI_in k hs.1 hs.2
    rw [leftF_len k hs.1 hs.2]
    unfold leftF
    simp only
    omega
  used := by
    have := backL_used (keep := keep) (l := d.1) (i := 0)
    have h2 := h.used
    simp only
    omega
theorem leftF_again {f : FileQ} (k j : Int) (h0 : 0 ≤ f.2.2.1) (h1 : f.2.2.1 ≤ f.2.1.length) : leftF (leftF f k) j = leftF f k := by
  have hl := leftF_len k h0 h1
  have hk := keepI_in k h0 h1
  have e : keepI (leftF f k) j = keepI f k := by
    rw [keepI, hl]
    simp only [leftF]
    omega
  have e2 : (leftF f k).2.1.take (keepI f k).toNat = (leftF f k).2.1 := List.take_of_length_le (by omega)
  show ((leftF f k).1, ((leftF f k).2.1.take (keepI (leftF f k) j).toNat, (keepI (leftF f k) j, ()))) = leftF f k
  rw [e, e2]
  rfl
theorem backL_again {keep other : List Int} : ∀ {l : List FileQ} {i j : Nat}, (∀ f ∈ l, 0 ≤ f.2.2.1 ∧ f.2.2.1 ≤ f.2.1.length) → backL other j (backL keep i l) = backL keep i l
  | [], _, _, _ => rfl
  | f :: l, i, j, h => by
    simp only [backL]
    have hf := h f List.mem_cons_self
    rw [leftF_again _ _ hf.1 hf.2, backL_again fun g hg => h g (List.mem_cons_of_mem _ hg)]

theorem DiskBack_ok (d : DiskQ) (keep other : List Int) (hnm : NamesOk d.1) (hlen : d.1.length ≤ maxLen) : g_law03_DiskBack (d, (keep, (other, ()))) = some true := by
  have _ := hlen
  unfold g_law03_DiskBack
  rw [awake_ok]
  simp only [Option.bind_some, Bool.not_true, cond_false]
  obtain ⟨sb, hsb, hs⟩ := ref_Short d
  rw [hsb, Option.bind_some]
  cases hc : (((!sb) || (decide ((keep.length : Int) > 80))) || (decide ((other.length : Int) > 80))) with
  | true => simp
  | false =>
    simp only [Bool.or_eq_false_iff, Bool.not_eq_false', decide_eq_false_iff_not] at hc
    obtain ⟨⟨h1, h2⟩, h3⟩ := hc
    rw [cond_false, disk_Right d hnm, Option.bind_some, Option.bind_some]
    cases hr : rightB d with
    | false => rfl
    | true =>
      have hR := (rightB_iff d).1 hr
      have h64 := hR.len
      rw [Bool.not_true, cond_false, disk_Back hnm keep (by omega), Option.bind_some]
      have hb : backD d keep (-1) = ((backL keep 0 d.1, (d.2.1, (-1, (false, ())))), (0, ())) := by
        unfold backD
        rw [if_neg (by rw [hr]; simp)]
      rw [hb]
      have hR2 := backD_right hR keep (-1) (by omega)
      dsimp only
      rw [disk_Right _ hR2.namesOk, (rightB_iff _).2 hR2]
      simp only [bne_self_eq_false, cond_false, Option.bind_some, Bool.not_true, Bool.false_or, backL_length]
      rw [loop_over0 d.1 (fun i (b : Unit) => ((i : Int), ())) (fun _ _ => (.inl () : Unit ⊕ Bool)) (fun _ _ => True) (b := ()) ?_ ?_ trivial (by rfl)]
      · simp only [Option.bind_some, eX]
        rw [disk_Back hR2.namesOk other (by omega), Option.bind_some]
        have hb2 : backD (backL keep 0 d.1, (d.2.1, ((-1 : Int), (false, ())))) other (-1) = ((backL keep 0 d.1, (d.2.1, (-1, (false, ())))), (0, ())) := by
          unfold backD
          rw [if_neg (by rw [(rightB_iff _).2 hR2]; simp)]
          simp only
          rw [backL_again hR.sure]
        rw [hb2]
        simp only [beq_self_eq_true, cond_true]
        rw [ref_Same _ (by simp only [backL_length]; unfold maxLen; omega)]
        rfl
      · intro b _
        simp only [ltI', cond_false]
        rfl
      · intro i b hi _
        left
        have hA : i < (backL keep 0 d.1).length := by rw [backL_length]; exact hi
        have hb2 : (backL keep 0 d.1)[i] = leftF d.1[i] (keepAt keep i) := by
          have := backL_get keep d.1 0 i
          rw [List.getElem?_eq_getElem hA, List.getElem?_eq_getElem hi] at this
          simpa using this
        have hmem : d.1[i] ∈ d.1 := List.getElem_mem hi
        have hsu := hR.sure _ hmem
        have hsz := hR.size hmem
        refine ⟨(), ?_, trivial, rfl⟩
        simp only [ltI hi, cond_true, getI_at hi, getI_at hA, Option.bind_some]
        rw [hb2]
        generalize d.1[i] = f at hsu hsz
        generalize keepAt keep i = k
        have hk := keepI_in k hsu.1 hsu.2
        have hl := leftF_len k hsu.1 hsu.2
        have e1 : ((!(decide ((leftF f k).1 = f.1))) || ((leftF f k).2.2.1 != ((leftF f k).2.1.length : Int))) = false := by
          rw [hl]
          simp [leftF]
        rw [e1, cond_false]
        have e2 : g_law03_begins (f.2.1, ((leftF f k).2.1, ())) = some true := law_begins f.2.1 (keepI f k).toNat (by omega)
        rw [e2]
        simp only [Option.bind_some, Bool.not_true, cond_false]
        rw [sub0 _ _ hsu.1 hsu.2]
        have e3 : g_law03_begins ((leftF f k).2.1, (f.2.1.take f.2.2.1.toNat, ())) = some true := by
          have := law_begins (leftF f k).2.1 f.2.2.1.toNat (by omega)
          have e : (leftF f k).2.1.take f.2.2.1.toNat = f.2.1.take f.2.2.1.toNat := by
            unfold leftF
            simp only
            rw [List.take_take, Nat.min_eq_left (by omega)]
          rwa [e] at this
        simp only [Option.bind_some]
        rw [e3]
        simp only [Option.bind_some, Bool.not_true, cond_false]
        rw [wrap_succ (by omega)]

theorem pure_DiskBack : ∀ a, Rg (consS [shDiskQ, (.slice 1 (.int .i64)), (.slice 1 (.int .i64))]) a → g_law03_DiskBack a = some true := by
  rintro ⟨d, keep, other, ⟨⟩⟩ ⟨hd, _⟩
  obtain ⟨hnm, hlen, hw⟩ := rgDk hd
  exact DiskBack_ok d keep other hnm hlen
end Go.AI
