/- disk: files in the order of their names, as a table. -/
import Derived.Test.YtbcffodjbbcdhaaXOrd
namespace Go.AI

abbrev FileQ := ByteArray × (List Int × (Int × Unit))

/-- In order. -/
def Srt (l : List FileQ) : Prop := l.Pairwise fun f g => ltS f.1 g.1 = true
def getF : List FileQ → ByteArray → Option FileQ
  | [], _ => none
  | f :: l, n => if f.1 = n then some f else getF l n
def putF : List FileQ → FileQ → List FileQ
  | [], f => [f]
  | x :: l, f => if ltS x.1 f.1 = true then x :: putF l f else if x.1 = f.1 then f :: l else f :: x :: l
def delF : List FileQ → ByteArray → List FileQ
  | [], _ => []
  | x :: l, n => if x.1 = n then l else x :: delF l n
def rankF : List FileQ → ByteArray → Nat
  | [], _ => 0
  | x :: l, n => if ltS x.1 n = true then rankF l n + 1 else 0
def usedF : List FileQ → Nat
  | [] => 0
  | f :: l => f.2.1.length + usedF l

theorem Srt.tail {x : FileQ} {l : List FileQ} (h : Srt (x :: l)) : Srt l := (List.pairwise_cons.1 h).2
theorem Srt.head {x : FileQ} {l : List FileQ} (h : Srt (x :: l)) : ∀ f ∈ l, ltS x.1 f.1 = true := (List.pairwise_cons.1 h).1

theorem getF_name {l : List FileQ} {n : ByteArray} {f : FileQ} (h : getF l n = some f) : f.1 = n := by
  induction l with
  | nil => cases h
  | cons x l ih =>
    simp only [getF] at h
    split at h
    · cases h; assumption
    · exact ih h
theorem getF_mem {l : List FileQ} {n : ByteArray} {f : FileQ} (h : getF l n = some f) : f ∈ l := by
  induction l with
  | nil => cases h
  | cons x l ih =>
    simp only [getF] at h
    split at h
    · cases h; exact List.mem_cons_self
    · exact List.mem_cons_of_mem _ (ih h)
theorem getF_none {l : List FileQ} {n : ByteArray} (h : ∀ f ∈ l, f.1 ≠ n) : getF l n = none := by
  induction l with
  | nil => rfl
  | cons x l ih =>
    simp only [getF]
    rw [if_neg (h x List.mem_cons_self)]
    exact ih fun f hf => h f (List.mem_cons_of_mem _ hf)
theorem getF_ne {l : List FileQ} {n : ByteArray} (h : getF l n = none) : ∀ f ∈ l, f.1 ≠ n := by
  induction l with
  | nil => intro f hf; cases hf
  | cons x l ih =>
    simp only [getF] at h
    split at h
    · cases h
    · rename_i hx
      intro f hf
      rcases List.mem_cons.1 hf with rfl | hf
      · exact hx
      · exact ih h f hf
theorem getF_of_mem {l : List FileQ} (hs : Srt l) {f : FileQ} (h : f ∈ l) : getF l f.1 = some f := by
  induction l with
  | nil => cases h
  | cons x l ih =>
    simp only [getF]
    rcases List.mem_cons.1 h with rfl | h
    · rw [if_pos rfl]
    · rw [if_neg (ltS_ne (hs.head f h))]
      exact ih hs.tail h

theorem putF_mem {l : List FileQ} {f g : FileQ} (h : g ∈ putF l f) : g = f ∨ g ∈ l := by
  induction l with
  | nil => simp [putF] at h; exact .inl h
  | cons x l ih =>
    simp only [putF] at h
    split at h
    · rcases List.mem_cons.1 h with rfl | h
      · exact .inr List.mem_cons_self
      · exact (ih h).imp id (List.mem_cons_of_mem _)
    · split at h
      · rcases List.mem_cons.1 h with rfl | h
        · exact .inl rfl
        · exact .inr (List.mem_cons_of_mem _ h)
      · rcases List.mem_cons.1 h with rfl | h
        · exact .inl rfl
        · exact .inr h
theorem putF_srt {l : List FileQ} (hs : Srt l) (f : FileQ) : Srt (putF l f) := by
  induction l with
  | nil => exact List.pairwise_singleton _ _
  | cons x l ih =>
    simp only [putF]
    split
    · rename_i h
      refine List.pairwise_cons.2 ⟨fun g hg => ?_, ih hs.tail⟩
      rcases putF_mem hg with rfl | hg
      · exact h
      · exact hs.head g hg
    · rename_i h
      split
      · rename_i e
        refine List.pairwise_cons.2 ⟨fun g hg => ?_, hs.tail⟩
        rw [← e]; exact hs.head g hg
      · rename_i e
        have h1 : ltS f.1 x.1 = true := by
          cases hq : ltS f.1 x.1 with
          | true => rfl
          | false => exact absurd (ltS_tri (by simpa using h) hq) e
        refine List.pairwise_cons.2 ⟨fun g hg => ?_, hs⟩
        rcases List.mem_cons.1 hg with rfl | hg
        · exact h1
        · exact ltS_trans h1 (hs.head g hg)
theorem getF_putF {l : List FileQ} (hs : Srt l) (f : FileQ) (n : ByteArray) : getF (putF l f) n = if f.1 = n then some f else getF l n := by
  induction l with
  | nil => simp [putF, getF]
  | cons x l ih =>
    simp only [putF]
    split
    · rename_i h
      simp only [getF, ih hs.tail]
      by_cases hx : x.1 = n
      · rw [if_pos hx, if_pos hx, if_neg]
        intro e
        exact ltS_ne h (hx.trans e.symm)
      · rw [if_neg hx, if_neg hx]
    · rename_i h
      split
      · rename_i e
        simp only [getF]
        by_cases hx : f.1 = n
        · rw [if_pos hx, if_pos hx]
        · rw [if_neg hx, if_neg hx, if_neg (fun q => hx (e.symm.trans q))]
      · simp only [getF]
theorem delF_mem {l : List FileQ} {n : ByteArray} {g : FileQ} (h : g ∈ delF l n) : g ∈ l := by
  induction l with
  | nil => cases h
  | cons x l ih =>
    simp only [delF] at h
    split at h
    · exact List.mem_cons_of_mem _ h
    · rcases List.mem_cons.1 h with rfl | h
      · exact List.mem_cons_self
      · exact List.mem_cons_of_mem _ (ih h)
theorem delF_srt {l : List FileQ} (hs : Srt l) (n : ByteArray) : Srt (delF l n) := by
  induction l with
  | nil => exact hs
  | cons x l ih =>
    simp only [delF]
    split
    · exact hs.tail
    · exact List.pairwise_cons.2 ⟨fun g hg => hs.head g (delF_mem hg), ih hs.tail⟩
theorem getF_delF {l : List FileQ} (hs : Srt l) (m n : ByteArray) : getF (delF l m) n = if m = n then none else getF l n := by
  induction l with
  | nil => simp [delF, getF]
  | cons x l ih =>
    simp only [delF]
    split
    · rename_i e
      by_cases hmn : m = n
      · rw [if_pos hmn]
        exact getF_none fun f hf => by rw [← hmn, ← e]; exact (ltS_ne (hs.head f hf)).symm
      · rw [if_neg hmn]
        simp only [getF]
        rw [if_neg (fun q => hmn (e.symm.trans q))]
    · rename_i e
      simp only [getF, ih hs.tail]
      by_cases hx : x.1 = n
      · rw [if_pos hx, if_pos hx, if_neg (fun q => e (hx.trans q.symm))]
      · rw [if_neg hx, if_neg hx]
/-- Two tables with the same files are the same. -/
theorem srt_ext {l m : List FileQ} (hl : Srt l) (hm : Srt m) (h : ∀ n, getF l n = getF m n) : l = m := by
  induction l generalizing m with
  | nil =>
    cases m with
    | nil => rfl
    | cons y m =>
      have := h y.1
      simp [getF] at this
  | cons x l ih =>
    cases m with
    | nil =>
      have := h x.1
      simp [getF] at this
    | cons y m =>
      have hx := h x.1
      have hy := h y.1
      have hxm : x ∈ y :: m := getF_mem (n := x.1) (by rw [← hx]; simp [getF])
      have hyl : y ∈ x :: l := getF_mem (n := y.1) (by rw [hy]; simp [getF])
      have e : x = y := by
        rcases List.mem_cons.1 hxm with e | h1
        · exact e
        · rcases List.mem_cons.1 hyl with e | h2
          · exact e.symm
          · have h3 := hm.head x h1
            have h4 := hl.head y h2
            rw [ltS_asymm h3] at h4
            cases h4
      subst e
      rw [ih hl.tail hm.tail fun n => ?_]
      have := h n
      simp only [getF] at this
      by_cases hn : x.1 = n
      · rw [getF_none fun f hf => by rw [← hn]; exact (ltS_ne (hl.head f hf)).symm, getF_none fun f hf => by rw [← hn]; exact (ltS_ne (hm.head f hf)).symm]
      · rwa [if_neg hn, if_neg hn] at this

theorem putF_length_new {l : List FileQ} {f : FileQ} (h : getF l f.1 = none) : (putF l f).length = l.length + 1 := by
  induction l with
  | nil => rfl
  | cons x l ih =>
    simp only [getF] at h
    split at h
    · cases h
    · rename_i e
      simp only [putF]
      split
      · simp [ih h]
      · simp [e]
theorem putF_length_old {l : List FileQ} (hs : Srt l) {f g : FileQ} (h : getF l f.1 = some g) : (putF l f).length = l.length := by
  induction l with
  | nil => cases h
  | cons x l ih =>
    simp only [getF] at h
    simp only [putF]
    split at h
    · rename_i e
      rw [if_neg (by rw [e, ltS_irrefl]; simp), if_pos e]
      rfl
    · have hlt : ltS x.1 f.1 = true := by
        have h1 := hs.head g (getF_mem h)
        rwa [getF_name h] at h1
      rw [if_pos hlt, List.length_cons, ih hs.tail h]
      rfl
theorem delF_length {l : List FileQ} {n : ByteArray} {f : FileQ} (h : getF l n = some f) : (delF l n).length + 1 = l.length := by
  induction l with
  | nil => cases h
  | cons x l ih =>
    simp only [delF, getF] at h ⊢
    split
    · rfl
    · rename_i e
      rw [if_neg e] at h
      simp [ih h]
theorem delF_none {l : List FileQ} {n : ByteArray} (h : getF l n = none) : delF l n = l := by
  induction l with
  | nil => rfl
  | cons x l ih =>
    simp only [delF, getF] at h ⊢
    split
    · rename_i e; rw [if_pos e] at h; cases h
    · rename_i e; rw [if_neg e] at h; rw [ih h]
theorem usedF_putF_new {l : List FileQ} {f : FileQ} (h : getF l f.1 = none) : usedF (putF l f) = usedF l + f.2.1.length := by
  induction l with
  | nil => simp [putF, usedF]
  | cons x l ih =>
    simp only [getF] at h
    split at h
    · cases h
    · rename_i e
      simp only [putF]
      split
      · simp only [usedF, ih h]; omega
      · simp only [e, if_false, usedF]; omega
theorem usedF_putF_old {l : List FileQ} (hs : Srt l) {f g : FileQ} (h : getF l f.1 = some g) : usedF (putF l f) + g.2.1.length = usedF l + f.2.1.length := by
  induction l with
  | nil => cases h
  | cons x l ih =>
    simp only [getF] at h
    simp only [putF]
    split at h
    · rename_i e
      cases h
      rw [if_neg (by rw [e, ltS_irrefl]; simp), if_pos e]
      simp only [usedF]; omega
    · rename_i e
      have hlt : ltS x.1 f.1 = true := by
        have := getF_mem h
        have h1 := hs.head g this
        rwa [getF_name h] at h1
      rw [if_pos hlt]
      have := ih hs.tail h
      simp only [usedF]; omega
theorem usedF_delF {l : List FileQ} {n : ByteArray} {g : FileQ} (h : getF l n = some g) : usedF (delF l n) + g.2.1.length = usedF l := by
  induction l with
  | nil => cases h
  | cons x l ih =>
    simp only [getF] at h
    simp only [delF]
    split at h
    · rename_i e
      cases h
      rw [if_pos e]
      simp only [usedF]; omega
    · rename_i e
      rw [if_neg e]
      have := ih h
      simp only [usedF]; omega
theorem usedF_mem {l : List FileQ} {f : FileQ} (h : f ∈ l) : f.2.1.length ≤ usedF l := by
  induction l with
  | nil => cases h
  | cons x l ih =>
    simp only [usedF]
    rcases List.mem_cons.1 h with rfl | h
    · omega
    · have := ih h; omega

/-! ### Places -/
theorem rankF_le (l : List FileQ) (n : ByteArray) : rankF l n ≤ l.length := by
  induction l with
  | nil => exact Nat.le_refl _
  | cons x l ih =>
    simp only [rankF, List.length_cons]
    split <;> omega
theorem rankF_lt {l : List FileQ} {n : ByteArray} {i : Nat} (h : i < rankF l n) (hi : i < l.length) : ltS (l[i]).1 n = true := by
  induction l generalizing i with
  | nil => simp at hi
  | cons x l ih =>
    simp only [rankF] at h
    split at h
    · rename_i hx
      cases i with
      | zero => exact hx
      | succ i => exact ih (by omega) (by simpa using hi)
    · omega
theorem rankF_ge {l : List FileQ} (hs : Srt l) {n : ByteArray} {i : Nat} (h : rankF l n ≤ i) (hi : i < l.length) : ltS (l[i]).1 n = false := by
  induction l generalizing i with
  | nil => simp at hi
  | cons x l ih =>
    simp only [rankF] at h
    split at h
    · cases i with
      | zero => omega
      | succ i => exact ih hs.tail (by omega) (by simpa using hi)
    · rename_i hx
      cases i with
      | zero => simpa using hx
      | succ i =>
        cases hq : ltS ((x :: l)[i + 1]).1 n with
        | false => rfl
        | true =>
          have := hs.head (l[i]'(by simpa using hi)) (List.getElem_mem _)
          exact absurd (ltS_trans this hq) hx
theorem getF_rank {l : List FileQ} (hs : Srt l) (n : ByteArray) : getF l n = match l[rankF l n]? with
    | some f => if f.1 = n then some f else none
    | none => none := by
  induction l with
  | nil => rfl
  | cons x l ih =>
    by_cases h : ltS x.1 n = true
    · have e : rankF (x :: l) n = rankF l n + 1 := by simp only [rankF]; rw [if_pos h]
      rw [e, List.getElem?_cons_succ, ← ih hs.tail]
      simp only [getF]
      rw [if_neg (ltS_ne h)]
    · have e : rankF (x :: l) n = 0 := by simp only [rankF]; rw [if_neg h]
      rw [e, List.getElem?_cons_zero]
      simp only [getF]
      by_cases hx : x.1 = n
      · rw [if_pos hx, if_pos hx]
      · rw [if_neg hx, if_neg hx]
        refine getF_none fun f hf hq => ?_
        have h1 := hs.head f hf
        rw [hq] at h1
        exact h h1
theorem getF_at {l : List FileQ} (hs : Srt l) {n : ByteArray} {f : FileQ} (h : getF l n = some f) : l[rankF l n]? = some f := by
  rw [getF_rank hs] at h
  split at h
  · rename_i g hg
    split at h
    · cases h; exact hg
    · cases h
  · cases h
theorem putF_old {l : List FileQ} (hs : Srt l) {f g : FileQ} (h : getF l f.1 = some g) : putF l f = l.set (rankF l f.1) f := by
  induction l with
  | nil => cases h
  | cons x l ih =>
    simp only [getF] at h
    simp only [putF, rankF]
    split at h
    · rename_i e
      rw [if_neg (by rw [e, ltS_irrefl]; simp), if_pos e, if_neg (by rw [e, ltS_irrefl]; simp)]
      rfl
    · have hlt : ltS x.1 f.1 = true := by
        have h1 := hs.head g (getF_mem h)
        rwa [getF_name h] at h1
      rw [if_pos hlt, if_pos hlt, ih hs.tail h]
      rfl
theorem putF_new {l : List FileQ} {f : FileQ} (h : getF l f.1 = none) : putF l f = l.take (rankF l f.1) ++ f :: l.drop (rankF l f.1) := by
  induction l with
  | nil => rfl
  | cons x l ih =>
    simp only [getF] at h
    split at h
    · cases h
    · rename_i e
      simp only [putF, rankF]
      split
      · rw [ih h]; rfl
      · rfl
theorem delF_at {l : List FileQ} (hs : Srt l) {n : ByteArray} {f : FileQ} (h : getF l n = some f) : delF l n = l.take (rankF l n) ++ l.drop (rankF l n + 1) := by
  induction l with
  | nil => cases h
  | cons x l ih =>
    simp only [getF] at h
    simp only [delF, rankF]
    split at h
    · rename_i e
      rw [if_pos e, if_neg (by rw [e, ltS_irrefl]; simp)]
      rfl
    · rename_i e
      have hlt : ltS x.1 n = true := by
        have h1 := hs.head f (getF_mem h)
        rwa [getF_name h] at h1
      rw [if_neg e, if_pos hlt, ih hs.tail h]
      rfl
end Go.AI
