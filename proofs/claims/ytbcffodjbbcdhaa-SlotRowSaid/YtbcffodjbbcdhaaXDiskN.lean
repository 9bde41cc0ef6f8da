/- disk: what is kept, and what lasts (of the texts XDiskG, XDiskH, XDiskI, without their laws). -/
import Derived.Test.YtbcffodjbbcdhaaXDiskF
namespace Go.AI
open IntKind

abbrev shFileQ : Sh := .cons .str (.cons (.slice 1 (.int .u8)) (.cons (.int .i64) .nil))
abbrev shDiskQ : Sh := .cons (.slice 3 shFileQ) (.cons (.int .i64) (.cons (.int .i64) (.cons .bool .nil)))
theorem rg_i64 {x : Int} (h : (Lit.int .i64 x).wf = true) : -9223372036854775808 ≤ x ∧ x < 9223372036854775808 := wf_i64 h
structure RgDk (d : DiskQ) : Prop where
  names : NamesOk d.1
  len : d.1.length ≤ maxLen
  fuse : d.2.2.1 < 9223372036854775808
theorem rgDk {d : DiskQ} (h : Rg shDiskQ d) : RgDk d := by
  obtain ⟨⟨h1, h2⟩, _, h3, _⟩ := h
  refine ⟨fun f hf => ?_, h1, (rg_i64 h3).2⟩
  have hm : List.Mem f d.1 := hf
  exact (h2 f hm).1
/-! ### The fixed answer -/
theorem size_one (x : UInt8) : (ByteArray.mk (List.toArray (x :: []))).size ≤ maxLen := by
  show 1 ≤ maxLen
  unfold maxLen
  omega
theorem names_one {l : List FileQ} (h : l.all (fun f => decide (f.1.size ≤ 16)) = true) : NamesOk l := fun f hf => by
  have := of_decide_eq_true (List.all_eq_true.1 h f hf)
  unfold maxLen
  omega
/-! ### Short disks -/
def shortF : List FileQ → Int → (Int × Unit) ⊕ Bool
  | [], n => .inl (n, ())
  | f :: l, n => if f.2.1.length ≤ 70000 ∧ f.1.size ≤ 100 then shortF l (n + f.2.1.length) else .inr false
theorem shortF_end : ∀ (l : List FileQ) (n : Int), ∃ b, eX (fun v : Int × Unit => some (decide (v.1 ≤ 70000))) (shortF l n) = some b ∧ (b = true → n + usedF l ≤ 70000)
  | [], n => ⟨decide (n ≤ 70000), rfl, fun h => by have := of_decide_eq_true h; simpa [usedF] using this⟩
  | f :: l, n => by
    unfold shortF
    by_cases c : f.2.1.length ≤ 70000 ∧ f.1.size ≤ 100
    · rw [if_pos c]
      obtain ⟨b, h1, h2⟩ := shortF_end l (n + f.2.1.length)
      refine ⟨b, h1, fun hb => ?_⟩
      have := h2 hb
      simp only [usedF]
      omega
    · rw [if_neg c]
      exact ⟨false, rfl, fun h => by cases h⟩
theorem ref_Short (d : DiskQ) : ∃ b, g_ref03_Short (d, ()) = some b ∧ (b = true → d.1.length ≤ 70 ∧ usedF d.1 ≤ 70000) := by
  unfold g_ref03_Short
  dsimp only
  by_cases c : (d.1.length : Int) > 70
  · rw [decide_eq_true c, cond_true]
    exact ⟨false, rfl, fun h => by cases h⟩
  · rw [decide_eq_false c, cond_false]
    rw [loop_over0 d.1 (fun i (b : Int) => (b, ((i : Int), ()))) shortF (fun i b => 0 ≤ b ∧ b ≤ 70000 * i) (b := 0) ?_ ?_ (by simp) (by rfl)]
    · obtain ⟨b, h1, h2⟩ := shortF_end d.1 0
      refine ⟨b, by rw [Option.bind_some]; exact h1, fun hb => ⟨by omega, ?_⟩⟩
      have := h2 hb
      omega
    · intro b _
      simp only [ltI', cond_false]
      rfl
    · intro i b hi hb
      simp only [ltI hi, cond_true, getI_at hi, Option.bind_some]
      rw [drop_at hi]
      generalize d.1[i] = f
      have e : (bif (decide ((f.2.1.length : Int) > 70000)) then some true else some (decide (((ByteArray.size f.1) : Int) > 100))) = some (!(decide (f.2.1.length ≤ 70000 ∧ f.1.size ≤ 100))) := by
        by_cases h1 : f.2.1.length ≤ 70000
        · rw [decide_eq_false (by omega), cond_false]
          by_cases h2 : f.1.size ≤ 100
          · rw [decide_eq_false (by omega), decide_eq_true ⟨h1, h2⟩]; rfl
          · rw [decide_eq_true (by omega), decide_eq_false (fun h => h2 h.2)]; rfl
        · rw [decide_eq_true (by omega), cond_true, decide_eq_false (fun h => h1 h.1)]; rfl
      rw [e]
      simp only [Option.bind_some]
      by_cases c : f.2.1.length ≤ 70000 ∧ f.1.size ≤ 100
      · left
        refine ⟨b + f.2.1.length, ?_, by omega, ?_⟩
        · rw [decide_eq_true c, Bool.not_true, cond_false, wrap_i64_in (by omega) (by omega), wrap_succ (by omega)]
        · conv => lhs; unfold shortF
          rw [if_pos c]
      · right
        rw [decide_eq_false c, Bool.not_false, cond_true]
        unfold shortF
        rw [if_neg c]
        rfl
/-! ### DiskRight -/
theorem goD_len (a b : DiskQ) : (goD a b).1.1 = a.1 ∨ (goD a b).1.1 = b.1 := by
  unfold goD
  split
  · exact .inl rfl
  · exact .inr rfl
theorem putF_len (l : List FileQ) (f : FileQ) : (putF l f).length ≤ l.length + 1 := by
  induction l with
  | nil => simp [putF]
  | cons x l ih =>
    simp only [putF]
    split
    · simp; omega
    · split <;> simp
theorem delF_len (l : List FileQ) (n : ByteArray) : (delF l n).length ≤ l.length := by
  induction l with
  | nil => simp [delF]
  | cons x l ih =>
    simp only [delF]
    split
    · simp
    · simp; omega
theorem onD_len {d : DiskQ} {ns : List ByteArray} {n : ByteArray} {k : FileQ → DiskQ × (Int × Unit)} {m : Nat} (h : d.1.length ≤ m) (hk : ∀ f, (k f).1.1.length ≤ m) : (onD d ns n k).1.1.length ≤ m := by
  unfold onD
  split
  · exact h
  · split
    · exact h
    · exact hk _
theorem appD_len (d : DiskQ) (n : ByteArray) (b : List Int) : (appD d n b).1.1.length ≤ d.1.length + 1 := by
  unfold appD
  split
  · simp
  · split
    · simp
    · rcases goD_len (putF d.1 (n, ((fileOf d.1 n).2.1 ++ b, (fileOf d.1 n).2.2)), d.2) (putF d.1 (n, ((fileOf d.1 n).2.1 ++ b, (fileOf d.1 n).2.2)), d.2) with h | h <;> rw [h] <;> exact putF_len _ _
theorem goD_le {a b : DiskQ} {m : Nat} (ha : a.1.length ≤ m) (hb : b.1.length ≤ m) : (goD a b).1.1.length ≤ m := by
  rcases goD_len a b with h | h <;> rw [h] <;> assumption
theorem sub0 (a : List Int) (k : Int) (h0 : 0 ≤ k) (h1 : k ≤ a.length) : subI a 0 k = some (a.take k.toNat) := by
  have := subI_nat a (a := 0) (b := k.toNat) (Nat.zero_le _) (by omega)
  rw [Int.toNat_of_nonneg h0] at this
  simpa using this
theorem backL_mem {keep : List Int} {g : FileQ} : ∀ {l : List FileQ} {i : Nat}, g ∈ backL keep i l → ∃ f ∈ l, ∃ k, g = leftF f k
  | f :: l, i, h => by
    simp only [backL] at h
    rcases List.mem_cons.1 h with rfl | h
    · exact ⟨f, List.mem_cons_self, _, rfl⟩
    · obtain ⟨f', h1, k, h2⟩ := backL_mem h
      exact ⟨f', List.mem_cons_of_mem _ h1, k, h2⟩
theorem backL_srt {keep : List Int} : ∀ {l : List FileQ} {i : Nat}, Srt l → Srt (backL keep i l)
  | [], _, _ => List.Pairwise.nil
  | f :: l, i, h => by
    simp only [backL]
    refine List.pairwise_cons.2 ⟨fun g hg => ?_, backL_srt h.tail⟩
    obtain ⟨f', h1, k, rfl⟩ := backL_mem hg
    exact h.head f' h1
theorem leftF_len {f : FileQ} (k : Int) (h0 : 0 ≤ f.2.2.1) (h1 : f.2.2.1 ≤ f.2.1.length) : ((leftF f k).2.1.length : Int) = keepI f k := by
  have := keepI_in k h0 h1
  unfold leftF
  simp only [List.length_take]
  omega
theorem backL_used {keep : List Int} : ∀ {l : List FileQ} {i : Nat}, usedF (backL keep i l) ≤ usedF l
  | [], _ => Nat.le_refl _
  | f :: l, i => by
    simp only [backL, usedF]
    have := backL_used (keep := keep) (l := l) (i := i + 1)
    have h2 : (leftF f (keepAt keep i)).2.1.length ≤ f.2.1.length := by
      unfold leftF
      simp only [List.length_take]
      omega
    omega
theorem backD_right {d : DiskQ} (h : RightD d) (keep : List Int) (fuse : Int) (hf : -1 ≤ fuse) : RightD (backL keep 0 d.1, (d.2.1, (fuse, (false, ())))) where
  room0 := h.room0
  room1 := h.room1
  fuse := hf
  len := by simp only [backL_length]; exact h.len
  srt := backL_srt h.srt
  names := fun g hg => by
    obtain ⟨f, h1, k, rfl⟩ := backL_mem hg
    exact h.names f h1
  sure := fun g hg => by
    obtain ⟨f, h1, k, rfl⟩ := backL_mem hg
    have hs := h.sure f h1
    have hk := keepI_in k hs.1 hs.2
    rw [leftF_len k hs.1 hs.2]
    unfold leftF
    simp only
    omega
  used := by
    have := backL_used (keep := keep) (l := d.1) (i := 0)
    have h2 := h.used
    simp only
    omega
theorem leftF_again {f : FileQ} (k j : Int) (h0 : 0 ≤ f.2.2.1) (h1 : f.2.2.1 ≤ f.2.1.length) : leftF (leftF f k) j = leftF f k := by
  have hl := leftF_len k h0 h1
  have hk := keepI_in k h0 h1
  have e : keepI (leftF f k) j = keepI f k := by
    rw [keepI, hl]
    simp only [leftF]
    omega
  have e2 : (leftF f k).2.1.take (keepI f k).toNat = (leftF f k).2.1 := List.take_of_length_le (by omega)
  show ((leftF f k).1, ((leftF f k).2.1.take (keepI (leftF f k) j).toNat, (keepI (leftF f k) j, ()))) = leftF f k
  rw [e, e2]
  rfl
theorem backL_again {keep other : List Int} : ∀ {l : List FileQ} {i j : Nat}, (∀ f ∈ l, 0 ≤ f.2.2.1 ∧ f.2.2.1 ≤ f.2.1.length) → backL other j (backL keep i l) = backL keep i l
  | [], _, _, _ => rfl
  | f :: l, i, j, h => by
    simp only [backL]
    have hf := h f List.mem_cons_self
    rw [leftF_again _ _ hf.1 hf.2, backL_again fun g hg => h g (List.mem_cons_of_mem _ hg)]
theorem RightD.put {d : DiskQ} (h : RightD d) {f : FileQ} (hn : nameB f.1 = true) (hs : 0 ≤ f.2.2.1 ∧ f.2.2.1 ≤ f.2.1.length) (hu : (usedF (putF d.1 f) : Int) ≤ d.2.1) (hl : (putF d.1 f).length ≤ 64) : RightD (putF d.1 f, d.2) where
  room0 := h.room0
  room1 := h.room1
  fuse := h.fuse
  len := hl
  srt := putF_srt h.srt f
  names := fun g hg => by
    rcases putF_mem hg with rfl | hg
    · exact hn
    · exact h.names g hg
  sure := fun g hg => by
    rcases putF_mem hg with rfl | hg
    · exact hs
    · exact h.sure g hg
  used := hu
theorem usedF_del (l : List FileQ) (n : ByteArray) : usedF (delF l n) ≤ usedF l := by
  cases hg : getF l n with
  | none => rw [delF_none hg]; exact Nat.le_refl _
  | some g => have := usedF_delF hg; omega
theorem RightD.del {d : DiskQ} (h : RightD d) (n : ByteArray) : RightD (delF d.1 n, d.2) where
  room0 := h.room0
  room1 := h.room1
  fuse := h.fuse
  len := Nat.le_trans (delF_len _ _) h.len
  srt := delF_srt h.srt n
  names := fun g hg => h.names g (delF_mem hg)
  sure := fun g hg => h.sure g (delF_mem hg)
  used := by have := usedF_del d.1 n; have := h.used; simp only; omega
theorem RightD.down {d : DiskQ} (h : RightD d) : RightD (downD d) where
  room0 := h.room0
  room1 := h.room1
  fuse := h.fuse
  len := h.len
  srt := h.srt
  names := h.names
  sure := h.sure
  used := h.used
theorem RightD.burn {d : DiskQ} (h : RightD d) (h0 : d.2.2.1 ≠ 0) : RightD (burnD d) where
  room0 := h.room0
  room1 := h.room1
  fuse := by
    have := h.fuse
    unfold burnD
    simp only
    split <;> omega
  len := h.len
  srt := h.srt
  names := h.names
  sure := h.sure
  used := h.used
theorem RightD.go {a b : DiskQ} (ha : RightD a) (hb : RightD b) (hab : b.2.2.1 = a.2.2.1) : RightD (goD a b).1 := by
  unfold goD
  split
  · exact ha.down
  · exact hb.burn (by rw [hab]; assumption)
theorem onD_right {d : DiskQ} (h : RightD d) {ns : List ByteArray} {n : ByteArray} {k : FileQ → DiskQ × (Int × Unit)} (hk : ∀ f, errD d ns = 0 → getF d.1 n = some f → RightD (k f).1) : RightD (onD d ns n k).1 := by
  unfold onD
  split
  · exact h
  · rename_i he
    have he : errD d ns = 0 := by simpa using he
    split
    · exact h
    · rename_i f hf
      exact hk f he hf
theorem RightD.app {d : DiskQ} (h : RightD d) {n : ByteArray} {b : List Int} (hn : nameB n = true) (hc : ¬ (d.2.1 < usedF d.1 + b.length ∨ (getF d.1 n = none ∧ d.1.length = 64))) : RightD (putF d.1 (n, ((fileOf d.1 n).2.1 ++ b, (fileOf d.1 n).2.2)), d.2) := by
  have h64 := h.len
  unfold fileOf
  cases hg : getF d.1 n with
  | none =>
    have hl : d.1.length ≠ 64 := fun hh => hc (.inr ⟨hg, hh⟩)
    refine h.put hn ⟨Int.le_refl _, by simp⟩ ?_ ?_
    · rw [usedF_putF_new (by exact hg)]
      simp
      omega
    · rw [putF_length_new (by exact hg)]
      omega
  | some f =>
    have hs := h.sure f (getF_mem hg)
    refine h.put hn ?_ ?_ ?_
    · simp only [Option.getD_some, List.length_append]
      omega
    · have := usedF_putF_old h.srt (f := (n, (f.2.1 ++ b, f.2.2))) (g := f) hg
      simp only [Option.getD_some] at this ⊢
      simp only [List.length_append] at this
      omega
    · rw [putF_length_old h.srt (g := f) (by exact hg)]
      exact h64
theorem appD_right {d : DiskQ} (h : RightD d) (n : ByteArray) (b : List Int) : RightD (appD d n b).1 := by
  unfold appD
  split
  · exact h
  · rename_i he
    have he : errD d [n] = 0 := by simpa using he
    split
    · exact h
    · rename_i hc
      have := h.app ((errD_zero he).2.2 n (by simp)) hc
      exact this.go this rfl
theorem RightD.same {d : DiskQ} (h : RightD d) {n : ByteArray} {g f : FileQ} (hg : getF d.1 n = some g) (hf : f.1 = n) (hs : 0 ≤ f.2.2.1 ∧ f.2.2.1 ≤ f.2.1.length) (hl : f.2.1.length ≤ g.2.1.length) : RightD (putF d.1 f, d.2) := by
  subst hf
  have hu := h.used
  refine h.put (by rw [← getF_name hg]; exact h.names g (getF_mem hg)) hs ?_ ?_
  · have := usedF_putF_old h.srt (f := f) hg
    omega
  · rw [putF_length_old h.srt hg]
    exact h.len
theorem syncD_right {d : DiskQ} (h : RightD d) (n : ByteArray) : RightD (syncD d n).1 :=
  onD_right h fun f _ hg => h.go (h.same hg (show f.1 = n from getF_name hg) ⟨by simp only; omega, by simp⟩ (by simp)) rfl
theorem cutF_ok {f : FileQ} (h0 : 0 ≤ f.2.2.1) (h1 : f.2.2.1 ≤ f.2.1.length) {k : Int} (h2 : 0 ≤ k) (h3 : k ≤ f.2.1.length) : ((cutF f k).2.1.length : Int) = k ∧ 0 ≤ (cutF f k).2.2.1 ∧ (cutF f k).2.2.1 ≤ (cutF f k).2.1.length := by
  have e : ((cutF f k).2.1.length : Int) = k := by
    unfold cutF
    simp only [List.length_take]
    omega
  rw [e]
  refine ⟨rfl, ?_⟩
  unfold cutF
  simp only
  split <;> omega
theorem cutD_right {d : DiskQ} (h : RightD d) (n : ByteArray) (k : Int) : RightD (cutD d n k).1 :=
  onD_right h fun f _ hg => by
    have hs := h.sure f (getF_mem hg)
    split
    · exact h
    · have := cutF_ok hs.1 hs.2 (k := k) (by omega) (by omega)
      exact h.go (h.same hg (show f.1 = n from getF_name hg) this.2 (by omega)) rfl
theorem remD_right {d : DiskQ} (h : RightD d) (n : ByteArray) : RightD (remD d n).1 := onD_right h fun _ _ _ => h.go (h.del n) rfl
theorem RightD.ren {d : DiskQ} (h : RightD d) {a b : ByteArray} {f : FileQ} (hg : getF d.1 a = some f) (hb : nameB b = true) : RightD (putF (delF d.1 a) (b, f.2), d.2) := by
  have hd := h.del a
  have hs := h.sure f (getF_mem hg)
  have h1 := usedF_delF hg
  have h2 := delF_length hg
  have hu := h.used
  have h64 := h.len
  cases hg2 : getF (delF d.1 a) b with
  | none =>
    refine hd.put (f := (b, f.2)) hb hs ?_ ?_
    · rw [usedF_putF_new (by exact hg2)]
      simp only
      omega
    · rw [putF_length_new (by exact hg2)]
      simp only
      omega
  | some g =>
    refine hd.put (f := (b, f.2)) hb hs ?_ ?_
    · have := usedF_putF_old hd.srt (f := (b, f.2)) hg2
      simp only at this ⊢
      omega
    · rw [putF_length_old hd.srt (g := g) (by exact hg2)]
      simp only
      omega
theorem renD_right {d : DiskQ} (h : RightD d) (a b : ByteArray) : RightD (renD d a b).1 :=
  onD_right h fun f he hg => h.go (h.ren hg ((errD_zero he).2.2 b (by simp))) rfl
/-- What may be done on a disk with no fuse. -/
theorem goD_free {a b : DiskQ} (h : a.2.2.1 = -1) (hb : b.2 = a.2) : goD a b = (b, (0, ())) := by
  unfold goD burnD
  rw [if_neg (by omega), if_pos (by rw [hb]; exact h)]
  obtain ⟨l, r, f, t⟩ := b
  have e : f = -1 := by rw [← h, ← hb]
  subst e
  rfl
theorem goD_freeL {l m : List FileQ} {t : Int × (Int × (Bool × Unit))} (h : t.2.1 = -1) : goD (l, t) (m, t) = ((m, t), (0, ())) := goD_free h rfl
theorem goD_freeD {d : DiskQ} {m : List FileQ} (h : d.2.2.1 = -1) : goD d (m, d.2) = ((m, d.2), (0, ())) := goD_free h rfl
theorem putF_putF {l : List FileQ} (hs : Srt l) {f g : FileQ} (h : f.1 = g.1) : putF (putF l f) g = putF l g := by
  refine srt_ext (putF_srt (putF_srt hs f) g) (putF_srt hs g) fun n => ?_
  rw [getF_putF (putF_srt hs f), getF_putF hs, getF_putF hs]
  by_cases e : g.1 = n
  · rw [if_pos e, if_pos e]
  · rw [if_neg e, if_neg e, if_neg (by rw [h]; exact e)]
theorem ren_back {l : List FileQ} (hs : Srt l) {n o : ByteArray} {f : FileQ} (hn : getF l n = some f) (ho : getF l o = none) : putF (delF (putF (delF l n) (o, f.2)) o) (n, f.2) = l := by
  have h1 := delF_srt hs n
  have h2 := putF_srt h1 (o, f.2)
  have h3 := delF_srt h2 o
  refine srt_ext (putF_srt h3 _) hs fun x => ?_
  rw [getF_putF h3, getF_delF h2, getF_putF h1, getF_delF hs]
  by_cases e1 : n = x
  · rw [if_pos e1, ← e1, hn, ← getF_name hn]
  · rw [if_neg e1]
    by_cases e2 : o = x
    · rw [if_pos e2, ← e2, ho]
    · rw [if_neg e2, if_neg e2, if_neg e1]
theorem fileOf_some {l : List FileQ} {n : ByteArray} {f : FileQ} (h : getF l n = some f) : fileOf l n = f := by unfold fileOf; rw [h]; rfl
theorem fileOf_put {l : List FileQ} (hs : Srt l) (f : FileQ) : fileOf (putF l f) f.1 = f := fileOf_some (by rw [getF_putF hs, if_pos rfl])
end Go.AI
