/- disk: what is done keeps a disk right; what is there behind it. -/
import Derived.Test.YtbcffodjbbcdhaaXDiskH
namespace Go.AI
open IntKind

theorem RightD.put {d : DiskQ} (h : RightD d) {f : FileQ} (hn : nameB f.1 = true) (hs : 0 ≤ f.2.2.1 ∧ f.2.2.1 ≤ f.2.1.length) (hu : (usedF (putF d.1 f) : Int) ≤ d.2.1) (hl : (putF d.1 f).length ≤ 64) : RightD (putF d.1 f, d.2) where
  room0 := h.room0
  room1 := h.room1
  fuse := h.fuse
  len := hl
  srt := putF_srt h.srt f
  names := fun g hg => by
    rcases putF_mem hg with rfl | hg
    · exact hn
    · exact h.names g hg
  sure := fun g hg => by
    rcases putF_mem hg with rfl | hg
    · exact hs
    · exact h.sure g hg
  used := hu
theorem usedF_del (l : List FileQ) (n : ByteArray) : usedF (delF l n) ≤ usedF l := by
  cases hg : getF l n with
  | none => rw [delF_none hg]; exact Nat.le_refl _
  | some g => have := usedF_delF hg; omega
theorem RightD.del {d : DiskQ} (h : RightD d) (n : ByteArray) : RightD (delF d.1 n, d.2) where
  room0 := h.room0
  room1 := h.room1
  fuse := h.fuse
  len := Nat.le_trans (delF_len _ _) h.len
  srt := delF_srt h.srt n
  names := fun g hg => h.names g (delF_mem hg)
  sure := fun g hg => h.sure g (delF_mem hg)
  used := by have := usedF_del d.1 n; have := h.used; simp only; omega
theorem RightD.down {d : DiskQ} (h : RightD d) : RightD (downD d) where
  room0 := h.room0
  room1 := h.room1
  fuse := h.fuse
  len := h.len
  srt := h.srt
  names := h.names
  sure := h.sure
  used := h.used
theorem RightD.burn {d : DiskQ} (h : RightD d) (h0 : d.2.2.1 ≠ 0) : RightD (burnD d) where
  room0 := h.room0
  room1 := h.room1
  fuse := by
    have := h.fuse
    unfold burnD
    simp only
    split <;> omega
  len := h.len
  srt := h.srt
  names := h.names
  sure := h.sure
  used := h.used
theorem RightD.go {a b : DiskQ} (ha : RightD a) (hb : RightD b) (hab : b.2.2.1 = a.2.2.1) : RightD (goD a b).1 := by
  unfold goD
  split
  · exact ha.down
  · exact hb.burn (by rw [hab]; assumption)
theorem onD_right {d : DiskQ} (h : RightD d) {ns : List ByteArray} {n : ByteArray} {k : FileQ → DiskQ × (Int × Unit)} (hk : ∀ f, errD d ns = 0 → getF d.1 n = some f → RightD (k f).1) : RightD (onD d ns n k).1 := by
  unfold onD
  split
  · exact h
  · rename_i he
    have he : errD d ns = 0 := by simpa using he
    split
    · exact h
    · rename_i f hf
      exact hk f he hf

theorem RightD.app {d : DiskQ} (h : RightD d) {n : ByteArray} {b : List Int} (hn : nameB n = true) (hc : ¬ (d.2.1 < usedF d.1 + b.length ∨ (getF d.1 n = none ∧ d.1.length = 64))) : RightD (putF d.1 (n, ((fileOf d.1 n).2.1 ++ b, (fileOf d.1 n).2.2)), d.2) := by
  have h64 := h.len
  unfold fileOf
  cases hg : getF d.1 n with
  | none =>
    have hl : d.1.length ≠ 64 := fun hh => hc (.inr ⟨hg, hh⟩)
    refine h.put hn ⟨Int.le_refl _, by simp⟩ ?_ ?_
    · rw [usedF_putF_new (by exact hg)]
      simp
      omega
    · rw [putF_length_new (by exact hg)]
      omega
  | some f =>
    have hs := h.sure f (getF_mem hg)
    refine h.put hn ?_ ?_ ?_
    · simp only [Option.getD_some, List.length_append]
      omega
    · have := usedF_putF_old h.srt (f := (n, (f.2.1 ++ b, f.2.2))) (g := f) hg
      simp only [Option.getD_some] at this ⊢
      simp only [List.length_append] at this
      omega
    · rw [putF_length_old h.srt (g := f) (by exact hg)]
      exact h64
theorem appD_right {d : DiskQ} (h : RightD d) (n : ByteArray) (b : List Int) : RightD (appD d n b).1 := by
  unfold appD
  split
  · exact h
  · rename_i he
    have he : errD d [n] = 0 := by simpa using he
    split
    · exact h
    · rename_i hc
      have := h.app ((errD_zero he).2.2 n (by simp)) hc
      exact this.go this rfl
theorem RightD.same {d : DiskQ} (h : RightD d) {n : ByteArray} {g f : FileQ} (hg : getF d.1 n = some g) (hf : f.1 = n) (hs : 0 ≤ f.2.2.1 ∧ f.2.2.1 ≤ f.2.1.length) (hl : f.2.1.length ≤ g.2.1.length) : RightD (putF d.1 f, d.2) := by
  subst hf
  have hu := h.used
  refine h.put (by rw [← getF_name hg]; exact h.names g (getF_mem hg)) hs ?_ ?_
  · have := usedF_putF_old h.srt (f := f) hg
    omega
  · rw [putF_length_old h.srt hg]
    exact h.len
theorem syncD_right {d : DiskQ} (h : RightD d) (n : ByteArray) : RightD (syncD d n).1 :=
  onD_right h fun f _ hg => h.go (h.same hg (show f.1 = n from getF_name hg) ⟨by simp only; omega, by simp⟩ (by simp)) rfl
theorem cutF_ok {f : FileQ} (h0 : 0 ≤ f.2.2.1) (h1 : f.2.2.1 ≤ f.2.1.length) {k : Int} (h2 : 0 ≤ k) (h3 : k ≤ f.2.1.length) : ((cutF f k).2.1.length : Int) = k ∧ 0 ≤ (cutF f k).2.2.1 ∧ (cutF f k).2.2.1 ≤ (cutF f k).2.1.length := by
  have e : ((cutF f k).2.1.length : Int) = k := by
    unfold cutF
    simp only [List.length_take]
    omega
  rw [e]
  refine ⟨rfl, ?_⟩
  unfold cutF
  simp only
  split <;> omega
theorem cutD_right {d : DiskQ} (h : RightD d) (n : ByteArray) (k : Int) : RightD (cutD d n k).1 :=
  onD_right h fun f _ hg => by
    have hs := h.sure f (getF_mem hg)
    split
    · exact h
    · have := cutF_ok hs.1 hs.2 (k := k) (by omega) (by omega)
      exact h.go (h.same hg (show f.1 = n from getF_name hg) this.2 (by omega)) rfl
theorem remD_right {d : DiskQ} (h : RightD d) (n : ByteArray) : RightD (remD d n).1 := onD_right h fun _ _ _ => h.go (h.del n) rfl
theorem RightD.ren {d : DiskQ} (h : RightD d) {a b : ByteArray} {f : FileQ} (hg : getF d.1 a = some f) (hb : nameB b = true) : RightD (putF (delF d.1 a) (b, f.2), d.2) := by
  have hd := h.del a
  have hs := h.sure f (getF_mem hg)
  have h1 := usedF_delF hg
  have h2 := delF_length hg
  have hu := h.used
  have h64 := h.len
  cases hg2 : getF (delF d.1 a) b with
  | none =>
    refine hd.put (f := (b, f.2)) hb hs ?_ ?_
    · rw [usedF_putF_new (by exact hg2)]
      simp only
      omega
    · rw [putF_length_new (by exact hg2)]
      simp only
      omega
  | some g =>
    refine hd.put (f := (b, f.2)) hb hs ?_ ?_
    · have := usedF_putF_old hd.srt (f := (b, f.2)) hg2
      simp only at this ⊢
      omega
    · rw [putF_length_old hd.srt (g := g) (by exact hg2)]
      simp only
      omega
theorem renD_right {d : DiskQ} (h : RightD d) (a b : ByteArray) : RightD (renD d a b).1 :=
  onD_right h fun f he hg => h.go (h.ren hg ((errD_zero he).2.2 b (by simp))) rfl

/-- What may be done on a disk with no fuse. -/
theorem goD_free {a b : DiskQ} (h : a.2.2.1 = -1) (hb : b.2 = a.2) : goD a b = (b, (0, ())) := by
  unfold goD burnD
  rw [if_neg (by omega), if_pos (by rw [hb]; exact h)]
  obtain ⟨l, r, f, t⟩ := b
  have e : f = -1 := by rw [← h, ← hb]
  subst e
  rfl
theorem goD_freeL {l m : List FileQ} {t : Int × (Int × (Bool × Unit))} (h : t.2.1 = -1) : goD (l, t) (m, t) = ((m, t), (0, ())) := goD_free h rfl
theorem goD_freeD {d : DiskQ} {m : List FileQ} (h : d.2.2.1 = -1) : goD d (m, d.2) = ((m, d.2), (0, ())) := goD_free h rfl
theorem putF_putF {l : List FileQ} (hs : Srt l) {f g : FileQ} (h : f.1 = g.1) : putF (putF l f) g = putF l g := by
  refine srt_ext (putF_srt (putF_srt hs f) g) (putF_srt hs g) fun n => ?_
  rw [getF_putF (putF_srt hs f), getF_putF hs, getF_putF hs]
  by_cases e : g.1 = n
  · rw [if_pos e, if_pos e]
  · rw [if_neg e, if_neg e, if_neg (by rw [h]; exact e)]
theorem ren_back {l : List FileQ} (hs : Srt l) {n o : ByteArray} {f : FileQ} (hn : getF l n = some f) (ho : getF l o = none) : putF (delF (putF (delF l n) (o, f.2)) o) (n, f.2) = l := by
  have h1 := delF_srt hs n
  have h2 := putF_srt h1 (o, f.2)
  have h3 := delF_srt h2 o
  refine srt_ext (putF_srt h3 _) hs fun x => ?_
  rw [getF_putF h3, getF_delF h2, getF_putF h1, getF_delF hs]
  by_cases e1 : n = x
  · rw [if_pos e1, ← e1, hn, ← getF_name hn]
  · rw [if_neg e1]
    by_cases e2 : o = x
    · rw [if_pos e2, ← e2, ho]
    · rw [if_neg e2, if_neg e2, if_neg e1]
theorem fileOf_some {l : List FileQ} {n : ByteArray} {f : FileQ} (h : getF l n = some f) : fileOf l n = f := by unfold fileOf; rw [h]; rfl
theorem fileOf_put {l : List FileQ} (hs : Srt l) (f : FileQ) : fileOf (putF l f) f.1 = f := fileOf_some (by rw [getF_putF hs, if_pos rfl])
end Go.AI
