/- disk: names, right disks, where a file is; on both sides. -/
import Derived.Test.YtbcffodjbbcdhaaXDiskA
import Derived.Test.YtbcffodjbbcdhaaL
namespace Go.AI
open IntKind

abbrev DiskQ := List FileQ × (Int × (Int × (Bool × Unit)))

/-! ### Names -/
def signI (n : Int) : Bool := decide ((97 ≤ n ∧ n ≤ 122) ∨ (48 ≤ n ∧ n ≤ 57) ∨ n = 46)
def nameB (s : ByteArray) : Bool := (bytesOf s).all signI && decide (1 ≤ s.size ∧ s.size ≤ 16)
theorem bytesOf_length (s : ByteArray) : (bytesOf s).length = s.size := by
  unfold bytesOf
  rw [List.length_map, Array.length_toList]
  rfl
theorem idxB_nat {s : ByteArray} {i : Nat} (h : i < (bytesOf s).length) : idxB s (i : Int) = some (bytesOf s)[i] := by
  have h2 : i < s.size := by rwa [bytesOf_length] at h
  unfold idxB
  rw [if_pos (by omega)]
  have h3 : i < s.data.toList.length := by rw [Array.length_toList]; exact h2
  simp only [Int.toNat_natCast, bytesOf, List.getElem_map, List.getD_eq_getElem?_getD, List.getElem?_eq_getElem h3, Option.getD_some]

theorem disk_sign (n : Int) : g_disk_sign (n, ()) = some (signI n) := by
  unfold g_disk_sign signI
  simp only [Option.some.injEq]
  by_cases h1 : 97 ≤ n <;> by_cases h2 : n ≤ 122 <;> by_cases h3 : 48 ≤ n <;> by_cases h4 : n ≤ 57 <;> by_cases h5 : n = 46 <;> simp [h1, h2, h3, h4, h5]

def nameF : List Int → Unit → Unit ⊕ Bool
  | [], _ => .inl ()
  | n :: l, u => if signI n = true then nameF l u else .inr false
theorem nameF_end {b : Bool} : ∀ l : List Int, eX (fun _ => some b) (nameF l ()) = some (l.all signI && b)
  | [] => rfl
  | n :: l => by
    unfold nameF
    cases h : signI n with
    | true => simp only [if_true, nameF_end l, List.all_cons, h, Bool.true_and]
    | false => simp [eX, List.all_cons, h]

theorem disk_named (s : ByteArray) (hs : s.size ≤ maxLen) : g_disk_named (s, ()) = some (nameB s) := by
  unfold g_disk_named nameB
  have hl := bytesOf_length s
  have hm : maxLen = 9223372036854775807 := rfl
  rw [loop_over0 (bytesOf s) (fun i (b : Unit) => ((i : Int), ())) nameF (fun _ _ => True) (b := ()) ?_ ?_ trivial (by rfl)]
  · rw [Option.bind_some, nameF_end]
    congr 2
    by_cases h1 : 1 ≤ s.size <;> by_cases h2 : s.size ≤ 16 <;> simp [h1, h2] <;> omega
  · intro b _
    simp only [hl, ltI', cond_false]
    rfl
  · intro i b hi _
    have hi2 : i < s.size := by rwa [hl] at hi
    simp only [ltI hi2, cond_true, idxB_nat hi, Option.bind_some, disk_sign]
    rw [drop_at hi]
    generalize (bytesOf s)[i] = n
    cases h : signI n with
    | true =>
      left
      refine ⟨(), ?_, trivial, ?_⟩
      · simp only [Bool.not_true, cond_false, wrap_succ (n := i) (by omega)]
      · conv => lhs; unfold nameF
        rw [if_pos h]
    | false =>
      right
      simp only [Bool.not_false, cond_true]
      unfold nameF
      rw [h]
      rfl

theorem ref_Named (s : ByteArray) (hs : s.size ≤ maxLen) : g_ref03_Named (s, ()) = some (nameB s) := by
  unfold g_ref03_Named nameB
  have hl := bytesOf_length s
  have hm : maxLen = 9223372036854775807 := rfl
  rw [loop_over0 (bytesOf s) (fun i (b : Unit) => ((i : Int), ())) nameF (fun _ _ => True) (b := ()) ?_ ?_ trivial (by rfl)]
  · rw [Option.bind_some, nameF_end]
    congr 2
    by_cases h1 : 1 ≤ s.size <;> by_cases h2 : s.size ≤ 16 <;> simp [h1, h2] <;> omega
  · intro b _
    simp only [hl, ltI', cond_false]
    rfl
  · intro i b hi _
    have hi2 : i < s.size := by rwa [hl] at hi
    simp only [ltI hi2, cond_true, idxB_nat hi, Option.bind_some]
    rw [drop_at hi]
    generalize (bytesOf s)[i] = n
    have e : (((decide (n < 97) || decide (n > 122)) && (decide (n < 48) || decide (n > 57))) && (n != 46)) = !signI n := by
      unfold signI
      by_cases h1 : 97 ≤ n <;> by_cases h2 : n ≤ 122 <;> by_cases h3 : 48 ≤ n <;> by_cases h4 : n ≤ 57 <;> by_cases h5 : n = 46 <;> simp [h1, h2, h3, h4, h5] <;> omega
    simp only [e]
    cases h : signI n with
    | true =>
      left
      refine ⟨(), ?_, trivial, ?_⟩
      · simp only [Bool.not_true, cond_false, wrap_succ (n := i) (by omega)]
      · conv => lhs; unfold nameF
        rw [if_pos h]
    | false =>
      right
      simp only [Bool.not_false, cond_true]
      unfold nameF
      rw [h]
      rfl

/-! ### Right disks -/
def prevB (p : Option ByteArray) (n : ByteArray) : Bool := match p with
  | none => true
  | some q => ltS q n
def okL : Option ByteArray → Int → List FileQ → Bool
  | _, _, [] => true
  | p, r, f :: l => nameB f.1 && prevB p f.1 && decide (0 ≤ f.2.2.1 ∧ f.2.2.1 ≤ f.2.1.length ∧ (f.2.1.length : Int) ≤ r) && okL (some f.1) (r - f.2.1.length) l
def rightB (d : DiskQ) : Bool := decide (0 ≤ d.2.1 ∧ d.2.1 ≤ 65536 ∧ -1 ≤ d.2.2.1 ∧ d.1.length ≤ 64) && okL none d.2.1 d.1
/-- Names are no longer than strings are. -/
def NamesOk (l : List FileQ) : Prop := ∀ f ∈ l, f.1.size ≤ maxLen

def rightF : List FileQ → Option ByteArray × Int → Unit ⊕ Bool
  | [], _ => .inl ()
  | f :: l, b => if (nameB f.1 && prevB b.1 f.1 && decide (0 ≤ f.2.2.1 ∧ f.2.2.1 ≤ f.2.1.length ∧ (f.2.1.length : Int) ≤ b.2)) = true then rightF l (some f.1, b.2 - f.2.1.length) else .inr false
theorem rightF_end : ∀ (l : List FileQ) (b : Option ByteArray × Int), eX (fun _ => some true) (rightF l b) = some (okL b.1 b.2 l)
  | [], _ => rfl
  | f :: l, b => by
    unfold rightF okL
    cases h : (nameB f.1 && prevB b.1 f.1 && decide (0 ≤ f.2.2.1 ∧ f.2.2.1 ≤ f.2.1.length ∧ (f.2.1.length : Int) ≤ b.2)) with
    | true => simp only [if_true, rightF_end l, Bool.true_and]
    | false => rfl

def prevAt (l : List FileQ) (i : Nat) : Option ByteArray := if i = 0 then none else (l[i - 1]?).map (·.1)

theorem disk_Right (d : DiskQ) (hn : NamesOk d.1) : g_disk_Right (d, ()) = some (rightB d) := by
  obtain ⟨l, room, fuse, down, ⟨⟩⟩ := d
  unfold g_disk_Right rightB
  simp only
  by_cases c : 0 ≤ room ∧ room ≤ 65536 ∧ -1 ≤ fuse ∧ l.length ≤ 64
  · obtain ⟨c1, c2, c3, c4⟩ := c
    have e : ((((decide (room < 0)) || (decide (room > 65536))) || (decide (fuse < (-1)))) || (decide ((l.length : Int) > 64))) = false := by simp; omega
    rw [e, cond_false, decide_eq_true (⟨c1, c2, c3, c4⟩ : 0 ≤ room ∧ room ≤ 65536 ∧ -1 ≤ fuse ∧ l.length ≤ 64), Bool.true_and]
    rw [loop_over0 l (fun i (b : Option ByteArray × Int) => (b.2, ((i : Int), ()))) rightF (fun i b => b.1 = prevAt l i ∧ 0 ≤ b.2 ∧ b.2 ≤ 65536) (b := (none, room)) ?_ ?_ ⟨rfl, c1, c2⟩ (by rfl)]
    · rw [Option.bind_some, rightF_end]
    · intro b _
      simp only [ltI', cond_false]
      rfl
    · intro i b hi hb
      obtain ⟨p, r⟩ := b
      obtain ⟨hp, hr0, hr1⟩ := hb
      simp only at hp hr0 hr1
      simp only [ltI hi, cond_true, getI_at hi, Option.bind_some]
      rw [disk_named _ (hn _ (List.getElem_mem hi))]
      simp only [Option.bind_some]
      have e3 : (bif decide ((i : Int) > 0) then (getI l (IntKind.wrap .i64 ((i : Int) - 1))).bind fun v4 => some (!(Go.Op.bytesLess (ByteArray.toList v4.1) (ByteArray.toList (l[i]).1))) else some false) = some (!prevB p (l[i]).1) := by
        by_cases h0 : i = 0
        · subst h0
          subst hp
          rfl
        · have e : decide ((i : Int) > 0) = true := decide_eq_true (by omega)
          rw [e, cond_true, wrap_i64_in (by omega) (by omega), getI_lit l ((i : Int) - 1) (i - 1) (by omega), List.getElem?_eq_getElem (by omega), Option.bind_some]
          subst hp
          unfold prevAt
          rw [if_neg h0, List.getElem?_eq_getElem (by omega)]
          rfl
      rw [e3]
      simp only [Option.bind_some]
      rw [drop_at hi]
      have hpi : prevAt l (i + 1) = some (l[i]).1 := by
        unfold prevAt
        rw [if_neg (by omega), Nat.add_sub_cancel, List.getElem?_eq_getElem hi]
        rfl
      generalize l[i] = f at hpi
      have e4 : (bif !nameB f.1 then some true else some (!prevB p f.1)) = some (!(nameB f.1 && prevB p f.1)) := by
        cases nameB f.1 <;> cases prevB p f.1 <;> rfl
      rw [e4]
      simp only [Option.bind_some]
      cases h : (nameB f.1 && prevB p f.1 && decide (0 ≤ f.2.2.1 ∧ f.2.2.1 ≤ f.2.1.length ∧ (f.2.1.length : Int) ≤ r)) with
      | true =>
        left
        have h' := h
        simp only [Bool.and_eq_true, decide_eq_true_eq] at h'
        obtain ⟨⟨h1, h2⟩, h3, h4, h5⟩ := h'
        have e5 : ((((!(nameB f.1 && prevB p f.1)) || (decide (f.2.2.1 < 0))) || (decide (f.2.2.1 > (f.2.1.length : Int)))) || (decide ((f.2.1.length : Int) > r))) = false := by
          rw [h1, h2]
          simp
          omega
        refine ⟨(some f.1, r - f.2.1.length), ?_, ⟨hpi.symm, by simp only; omega, by simp only; omega⟩, ?_⟩
        · rw [e5, cond_false, wrap_succ (n := i) (by omega), wrap_i64_in (by omega) (by omega)]
        · conv => lhs; unfold rightF
          rw [if_pos h]
      | false =>
        right
        have e5 : ((((!(nameB f.1 && prevB p f.1)) || (decide (f.2.2.1 < 0))) || (decide (f.2.2.1 > (f.2.1.length : Int)))) || (decide ((f.2.1.length : Int) > r))) = true := by
          cases h1 : (nameB f.1 && prevB p f.1) with
          | false => simp
          | true =>
            rw [h1, Bool.true_and] at h
            have := of_decide_eq_false h
            simp
            omega
        rw [e5, cond_true]
        unfold rightF
        rw [if_neg (by simp only; rw [h]; simp)]
        rfl
  · have e : ((((decide (room < 0)) || (decide (room > 65536))) || (decide (fuse < (-1)))) || (decide ((l.length : Int) > 64))) = true := by simp; omega
    rw [e, cond_true, decide_eq_false c, Bool.false_and]

def refF : List FileQ → Option ByteArray × Int → (Int × Unit) ⊕ Bool
  | [], b => .inl (b.2, ())
  | f :: l, b => if (nameB f.1 && prevB b.1 f.1 && decide (0 ≤ f.2.2.1 ∧ f.2.2.1 ≤ f.2.1.length ∧ (f.2.1.length : Int) ≤ 65536)) = true then refF l (some f.1, b.2 + f.2.1.length) else .inr false
theorem refF_over (room : Int) : ∀ (l : List FileQ) (b : Option ByteArray × Int), room < b.2 → eX (fun v : Int × Unit => some (decide (v.1 ≤ room))) (refF l b) = some false
  | [], b, h => by
    show some (decide (b.2 ≤ room)) = _
    rw [decide_eq_false (by omega)]
  | f :: l, b, h => by
    unfold refF
    split
    · exact refF_over room l _ (by simp only; omega)
    · rfl
theorem refF_end (room : Int) (hr : room ≤ 65536) : ∀ (l : List FileQ) (b : Option ByteArray × Int), 0 ≤ b.2 → b.2 ≤ room → eX (fun v : Int × Unit => some (decide (v.1 ≤ room))) (refF l b) = some (okL b.1 (room - b.2) l)
  | [], b, _, h => by
    show some (decide (b.2 ≤ room)) = _
    rw [decide_eq_true h]
    rfl
  | f :: l, b, h0, h => by
    unfold refF okL
    cases h1 : (nameB f.1 && prevB b.1 f.1) with
    | false => simp [eX]
    | true =>
      rw [Bool.true_and, Bool.true_and]
      by_cases c : 0 ≤ f.2.2.1 ∧ f.2.2.1 ≤ f.2.1.length ∧ (f.2.1.length : Int) ≤ room - b.2
      · rw [decide_eq_true c, decide_eq_true (⟨c.1, c.2.1, by omega⟩ : 0 ≤ f.2.2.1 ∧ f.2.2.1 ≤ f.2.1.length ∧ (f.2.1.length : Int) ≤ 65536), if_pos rfl, Bool.true_and]
        rw [refF_end room hr l _ (by simp only; omega) (by simp only; omega)]
        simp only
        congr 2
        omega
      · rw [decide_eq_false c, Bool.false_and]
        by_cases c2 : 0 ≤ f.2.2.1 ∧ f.2.2.1 ≤ f.2.1.length ∧ (f.2.1.length : Int) ≤ 65536
        · rw [decide_eq_true c2, if_pos rfl]
          exact refF_over room l _ (by simp only; omega)
        · rw [decide_eq_false c2]
          rfl

theorem ref_Right (d : DiskQ) (hn : NamesOk d.1) : g_ref03_Right (d, ()) = some (rightB d) := by
  obtain ⟨l, room, fuse, down, ⟨⟩⟩ := d
  unfold g_ref03_Right rightB
  simp only
  by_cases c : 0 ≤ room ∧ room ≤ 65536 ∧ -1 ≤ fuse ∧ l.length ≤ 64
  · obtain ⟨c1, c2, c3, c4⟩ := c
    have e : ((((decide (room < 0)) || (decide (room > 65536))) || (decide (fuse < (-1)))) || (decide ((l.length : Int) > 64))) = false := by simp; omega
    rw [e, cond_false, decide_eq_true (⟨c1, c2, c3, c4⟩ : 0 ≤ room ∧ room ≤ 65536 ∧ -1 ≤ fuse ∧ l.length ≤ 64), Bool.true_and]
    rw [loop_over0 l (fun i (b : Option ByteArray × Int) => (b.2, ((i : Int), ()))) refF (fun i b => b.1 = prevAt l i ∧ 0 ≤ b.2 ∧ b.2 ≤ 65536 * i) (b := (none, 0)) ?_ ?_ ⟨rfl, Int.le_refl _, by simp⟩ (by rfl)]
    · rw [Option.bind_some, refF_end room c2 l _ (Int.le_refl _) c1]
      simp
    · intro b _
      simp only [ltI', cond_false]
      rfl
    · intro i b hi hb
      obtain ⟨p, r⟩ := b
      obtain ⟨hp, hr0, hr1⟩ := hb
      simp only at hp hr0 hr1
      simp only [ltI hi, cond_true, getI_at hi, Option.bind_some]
      rw [ref_Named _ (hn _ (List.getElem_mem hi))]
      simp only [Option.bind_some]
      have e3 : (bif decide ((i : Int) > 0) then (getI l (IntKind.wrap .i64 ((i : Int) - 1))).bind fun v4 => some ((Go.Op.bytesLess (ByteArray.toList (l[i]).1) (ByteArray.toList v4.1)) || (decide ((l[i]).1 = v4.1))) else some false) = some (!prevB p (l[i]).1) := by
        by_cases h0 : i = 0
        · subst h0
          subst hp
          rfl
        · have e : decide ((i : Int) > 0) = true := decide_eq_true (by omega)
          rw [e, cond_true, wrap_i64_in (by omega) (by omega), getI_lit l ((i : Int) - 1) (i - 1) (by omega), List.getElem?_eq_getElem (by omega), Option.bind_some]
          subst hp
          unfold prevAt
          rw [if_neg h0, List.getElem?_eq_getElem (by omega)]
          show some (ltS (l[i]).1 (l[i - 1]).1 || decide ((l[i]).1 = (l[i - 1]).1)) = some (!ltS (l[i - 1]).1 (l[i]).1)
          generalize (l[i]).1 = x
          generalize (l[i - 1]).1 = y
          cases h : ltS y x with
          | true => rw [ltS_asymm h, decide_eq_false (fun e => by rw [e, ltS_irrefl] at h; cases h)]; rfl
          | false =>
            cases h' : ltS x y with
            | true => rfl
            | false => rw [decide_eq_true (ltS_tri h' h)]; rfl
      rw [e3]
      simp only [Option.bind_some]
      rw [drop_at hi]
      have hpi : prevAt l (i + 1) = some (l[i]).1 := by
        unfold prevAt
        rw [if_neg (by omega), Nat.add_sub_cancel, List.getElem?_eq_getElem hi]
        rfl
      generalize l[i] = f at hpi
      cases h : (nameB f.1 && prevB p f.1 && decide (0 ≤ f.2.2.1 ∧ f.2.2.1 ≤ f.2.1.length ∧ (f.2.1.length : Int) ≤ 65536)) with
      | true =>
        left
        have h' := h
        simp only [Bool.and_eq_true, decide_eq_true_eq] at h'
        obtain ⟨⟨h1, h2⟩, h3, h4, h5⟩ := h'
        have e5 : (((!nameB f.1 || (decide (f.2.2.1 < 0))) || (decide (f.2.2.1 > (f.2.1.length : Int)))) || (decide ((f.2.1.length : Int) > 65536))) = false := by
          rw [h1]
          simp
          omega
        refine ⟨(some f.1, r + f.2.1.length), ?_, ⟨hpi.symm, by simp only; omega, by simp only; omega⟩, ?_⟩
        · rw [e5, h2, cond_false, Bool.not_true, cond_false, wrap_succ (n := i) (by omega), wrap_i64_in (by omega) (by omega)]
        · conv => lhs; unfold refF
          rw [if_pos h]
      | false =>
        right
        unfold refF
        rw [if_neg (by simp only; rw [h]; simp)]
        cases e5 : (((!nameB f.1 || (decide (f.2.2.1 < 0))) || (decide (f.2.2.1 > (f.2.1.length : Int)))) || (decide ((f.2.1.length : Int) > 65536))) with
        | true => rfl
        | false =>
          rw [cond_false]
          simp only [Bool.or_eq_false_iff, Bool.not_eq_false', decide_eq_false_iff_not] at e5
          obtain ⟨⟨⟨q1, q2⟩, q3⟩, q4⟩ := e5
          rw [q1, Bool.true_and] at h
          rw [decide_eq_true (by omega), Bool.and_true] at h
          rw [h]
          rfl
  · have e : ((((decide (room < 0)) || (decide (room > 65536))) || (decide (fuse < (-1)))) || (decide ((l.length : Int) > 64))) = true := by simp; omega
    rw [e, cond_true, decide_eq_false c, Bool.false_and]

/-! ### What right disks are -/
structure RightD (d : DiskQ) : Prop where
  room0 : 0 ≤ d.2.1
  room1 : d.2.1 ≤ 65536
  fuse : -1 ≤ d.2.2.1
  len : d.1.length ≤ 64
  srt : Srt d.1
  names : ∀ f ∈ d.1, nameB f.1 = true
  sure : ∀ f ∈ d.1, 0 ≤ f.2.2.1 ∧ f.2.2.1 ≤ f.2.1.length
  used : (usedF d.1 : Int) ≤ d.2.1

theorem okL_iff : ∀ (l : List FileQ) (p : Option ByteArray) (r : Int), 0 ≤ r → (okL p r l = true ↔ (∀ f ∈ l, ∀ q, p = some q → ltS q f.1 = true) ∧ Srt l ∧ (∀ f ∈ l, nameB f.1 = true) ∧ (∀ f ∈ l, 0 ≤ f.2.2.1 ∧ f.2.2.1 ≤ f.2.1.length) ∧ (usedF l : Int) ≤ r)
  | [], p, r, h0 => by simp [okL, Srt, usedF, h0]
  | f :: l, p, r, h0 => by
    have hu : usedF (f :: l) = f.2.1.length + usedF l := rfl
    constructor
    · intro h
      simp only [okL, Bool.and_eq_true, decide_eq_true_eq] at h
      obtain ⟨⟨⟨h1, h2⟩, h3, h4, h5⟩, h6⟩ := h
      obtain ⟨g1, g2, g3, g4, g5⟩ := (okL_iff l (some f.1) (r - f.2.1.length) (by omega)).1 h6
      have hp : ∀ q, p = some q → ltS q f.1 = true := by
        intro q hq
        subst hq
        exact h2
      refine ⟨fun g hg q hq => ?_, List.pairwise_cons.2 ⟨fun g hg => g1 g hg _ rfl, g2⟩, fun g hg => ?_, fun g hg => ?_, by rw [hu]; omega⟩
      · rcases List.mem_cons.1 hg with rfl | hg
        · exact hp q hq
        · exact ltS_trans (hp q hq) (g1 g hg _ rfl)
      · rcases List.mem_cons.1 hg with rfl | hg
        · exact h1
        · exact g3 g hg
      · rcases List.mem_cons.1 hg with rfl | hg
        · exact ⟨h3, h4⟩
        · exact g4 g hg
    · rintro ⟨g1, g2, g3, g4, g5⟩
      rw [hu] at g5
      have h1 := g3 f List.mem_cons_self
      have h2 : prevB p f.1 = true := by
        cases p with
        | none => rfl
        | some q => exact g1 f List.mem_cons_self q rfl
      have h3 := g4 f List.mem_cons_self
      have h6 := (okL_iff l (some f.1) (r - f.2.1.length) (by omega)).2 ⟨fun g hg q hq => by cases hq; exact g2.head g hg, g2.tail, fun g hg => g3 g (List.mem_cons_of_mem _ hg), fun g hg => g4 g (List.mem_cons_of_mem _ hg), by omega⟩
      simp only [okL, Bool.and_eq_true, decide_eq_true_eq]
      exact ⟨⟨⟨h1, h2⟩, h3.1, h3.2, by omega⟩, h6⟩
theorem rightB_iff (d : DiskQ) : rightB d = true ↔ RightD d := by
  unfold rightB
  rw [Bool.and_eq_true, decide_eq_true_eq]
  constructor
  · rintro ⟨⟨h1, h2, h3, h4⟩, h⟩
    obtain ⟨_, g2, g3, g4, g5⟩ := (okL_iff _ _ _ h1).1 h
    exact ⟨h1, h2, h3, h4, g2, g3, g4, g5⟩
  · intro h
    exact ⟨⟨h.room0, h.room1, h.fuse, h.len⟩, (okL_iff _ _ _ h.room0).2 ⟨(fun _ _ q hq => by cases hq), h.srt, h.names, h.sure, h.used⟩⟩
theorem RightD.size {d : DiskQ} (h : RightD d) {f : FileQ} (hf : f ∈ d.1) : f.2.1.length ≤ 65536 := by
  have := usedF_mem hf
  have h1 := h.used
  have h2 := h.room1
  omega
theorem nameB_size {s : ByteArray} (h : nameB s = true) : s.size ≤ 16 := by
  unfold nameB at h
  rw [Bool.and_eq_true, decide_eq_true_eq] at h
  exact h.2.2
theorem RightD.namesOk {d : DiskQ} (h : RightD d) : NamesOk d.1 := fun f hf => Nat.le_trans (nameB_size (h.names f hf)) (by unfold maxLen; omega)

/-! ### How many bytes -/
theorem disk_Used (d : DiskQ) (h : usedF d.1 < 9223372036854775808) (hl : d.1.length ≤ maxLen) : g_disk_Used (d, ()) = some (usedF d.1 : Int) := by
  unfold g_disk_Used
  have hm : maxLen = 9223372036854775807 := rfl
  rw [loop_over0 d.1 (fun i (b : Nat) => ((b : Int), ((i : Int), ()))) (fun l b => (((b + usedF l : Nat) : Int), ())) (fun i b => b + usedF (d.1.drop i) < 9223372036854775808) (b := 0) ?_ ?_ (by simpa using h) (by rfl)]
  · simp
  · intro b _
    simp only [ltI', cond_false]
    rfl
  · intro i b hi hb
    left
    rw [drop_at hi] at hb ⊢
    simp only [ltI hi, cond_true, getI_at hi, Option.bind_some]
    generalize d.1[i] = f at hb
    simp only [usedF] at hb ⊢
    refine ⟨b + f.2.1.length, ?_, by omega, by rw [Nat.add_assoc]⟩
    rw [wrap_i64_in (by omega) (by omega), wrap_succ (n := i) (by omega)]
    rfl
theorem used_same (d : DiskQ) : g_ref03_Used (d, ()) = g_disk_Used (d, ()) := rfl

/-! ### Where a file is -/
theorem wrap_u64_in {n : Int} (h0 : 0 ≤ n) (h1 : n < 18446744073709551616) : IntKind.u64.wrap n = n := by
  rw [IntKind.wrap_u64]; omega
theorem half_eq {lo hi : Nat} (h : lo + hi < 9223372036854775808) : IntKind.wrap .i64 (Int.fdiv (IntKind.wrap .u64 (IntKind.wrap .i64 ((lo : Int) + (hi : Int)))) (2 ^ 1)) = (((lo + hi) / 2 : Nat) : Int) := by
  rw [wrap_i64_in (n := (lo : Int) + hi) (by omega) (by omega), wrap_u64_in (by omega) (by omega)]
  have : Int.fdiv ((lo : Int) + (hi : Int)) (2 ^ 1) = (((lo + hi) / 2 : Nat) : Int) := by
    rw [Int.fdiv_eq_ediv_of_nonneg _ (by omega)]
    norm_cast
  rw [this, wrap_i64_in (by omega) (by omega)]
theorem str_Compare (a b : ByteArray) : g_strings_Compare (a, (b, ())) = some (cmpX a b) := rfl
theorem cmpX_neg (a b : ByteArray) : decide (cmpX a b < 0) = ltS a b := by
  rw [cmpX_eq]
  cases h : ltS a b with
  | true => rw [if_pos rfl]; rfl
  | false =>
    rw [if_neg (by simp)]
    by_cases e : a = b
    · rw [if_pos e]; rfl
    · rw [if_neg e]; rfl
theorem cmpX_zero (a b : ByteArray) : (cmpX a b == 0) = decide (a = b) := by
  rw [cmpX_eq]
  by_cases e : a = b
  · subst e
    rw [ltS_irrefl, if_neg (by simp), if_pos rfl]
    simp
  · cases h : ltS a b with
    | true => rw [if_pos rfl, decide_eq_false e]; rfl
    | false => rw [if_neg (by simp), if_neg e, decide_eq_false e]; rfl

theorem disk_find (d : DiskQ) (n : ByteArray) (hs : Srt d.1) (hl : d.1.length ≤ 100) : g_disk_find (d, (n, ())) = some ((rankF d.1 n : Int), ((getF d.1 n).isSome, ())) := by
  obtain ⟨l, t⟩ := d
  simp only at hs hl
  unfold g_disk_find
  simp only
  have hr := rankF_le l n
  let step := fun v1 : Int × (Int × Unit) =>
      bif (decide (v1.1 < v1.2.1)) then ((getI l (IntKind.wrap .i64 (Int.fdiv (IntKind.wrap .u64 (IntKind.wrap .i64 (v1.1 + v1.2.1))) (2 ^ 1))))).bind (fun (v2 : FileQ) =>
        ((g_strings_Compare (v2.1, (n, ())))).bind (fun (v3 : Int) =>
         (
          bif (decide (v3 < 0)) then some ((IntKind.wrap .i64 ((IntKind.wrap .i64 (Int.fdiv (IntKind.wrap .u64 (IntKind.wrap .i64 (v1.1 + v1.2.1))) (2 ^ 1))) + 1)), v1.2)
          else some (v1.1, ((IntKind.wrap .i64 (Int.fdiv (IntKind.wrap .u64 (IntKind.wrap .i64 (v1.1 + v1.2.1))) (2 ^ 1))), ()))).bind (fun (v4 : Int × (Int × Unit)) =>
          some (Sum.inl v4))))
      else (some (v1.1, ())).map Sum.inr
  have hstep : ∀ x : Nat × Nat, (x.1 ≤ rankF l n ∧ rankF l n ≤ x.2 ∧ x.2 ≤ l.length) → (∃ y : Nat × Nat, step (((x.1 : Int), ((x.2 : Int), ()))) = some (.inl (((y.1 : Int), ((y.2 : Int), ())))) ∧ (y.1 ≤ rankF l n ∧ rankF l n ≤ y.2 ∧ y.2 ≤ l.length) ∧ y.2 - y.1 < x.2 - x.1) ∨ ∃ o : Int × Unit, step (((x.1 : Int), ((x.2 : Int), ()))) = some (.inr o) ∧ o = ((rankF l n : Int), ()) := by
    rintro ⟨lo, hi⟩ ⟨g1, g2, g3⟩
    simp only [step] at g1 g2 g3 ⊢
    by_cases c : lo < hi
    · left
      rw [ltI c, cond_true, half_eq (by omega)]
      have hm : (lo + hi) / 2 < l.length := by omega
      rw [getI_at hm, Option.bind_some, str_Compare, Option.bind_some, cmpX_neg]
      cases hq : ltS (l[(lo + hi) / 2]).1 n with
      | true =>
        have hge : (lo + hi) / 2 < rankF l n := by
          apply Classical.byContradiction
          intro hc
          rw [rankF_ge hs (by omega) hm] at hq
          cases hq
        refine ⟨((lo + hi) / 2 + 1, hi), ?_, ⟨by simp only; omega, g2, g3⟩, by simp only; omega⟩
        rw [cond_true, wrap_succ (by omega)]
        rfl
      | false =>
        have hle : rankF l n ≤ (lo + hi) / 2 := by
          apply Classical.byContradiction
          intro hc
          rw [rankF_lt (by omega) hm] at hq
          cases hq
        refine ⟨(lo, (lo + hi) / 2), ?_, ⟨g1, hle, by simp only; omega⟩, by simp only; omega⟩
        rw [cond_false]
        rfl
    · right
      rw [decide_eq_false (by omega), cond_false]
      have : lo = rankF l n := by omega
      exact ⟨_, rfl, by rw [this]⟩
  obtain ⟨o, h1, h2⟩ := loop_meas (step := step) (fun x : Nat × Nat => ((x.1 : Int), ((x.2 : Int), ()))) (fun x => x.1 ≤ rankF l n ∧ rankF l n ≤ x.2 ∧ x.2 ≤ l.length) (fun o : Int × Unit => o = ((rankF l n : Int), ())) (fun x => x.2 - x.1) hstep (x := (0, l.length)) ⟨Nat.zero_le _, hr, Nat.le_refl _⟩
  have h1' := h1
  simp only [Int.natCast_zero, step] at h1'
  rw [show (loopO _ ((0 : Int), ((l.length : Int), ()))) = some o from h1', h2]
  simp only [Option.bind_some, str_Compare, cmpX_zero]
  rw [getF_rank hs]
  by_cases hlt : rankF l n < l.length
  · rw [ltI hlt, cond_true, getI_at hlt, Option.bind_some, List.getElem?_eq_getElem hlt]
    simp only
    by_cases e : (l[rankF l n]).1 = n
    · rw [if_pos e, decide_eq_true e]; rfl
    · rw [if_neg e, decide_eq_false e]; rfl
  · rw [decide_eq_false (by omega), cond_false, List.getElem?_eq_none (by omega)]
    rfl

def findF (n : ByteArray) : List FileQ → Nat → Unit ⊕ Int
  | [], _ => .inl ()
  | f :: l, i => if f.1 = n then .inr (i : Int) else findF n l (i + 1)
theorem findF_end (n : ByteArray) : ∀ (l : List FileQ) (i : Nat), Srt l → eX (fun _ => some (-1)) (findF n l i) = some (bif (getF l n).isSome then ((rankF l n + i : Nat) : Int) else -1)
  | [], i, _ => rfl
  | f :: l, i, hs => by
    unfold findF
    simp only [getF, rankF]
    by_cases e : f.1 = n
    · rw [if_pos e, if_pos e, if_neg (by rw [e, ltS_irrefl]; simp)]
      simp [eX]
    · rw [if_neg e, if_neg e, findF_end n l (i + 1) hs.tail]
      cases hg : getF l n with
      | none => rfl
      | some g =>
        have h1 := hs.head g (getF_mem hg)
        rw [getF_name hg] at h1
        rw [if_pos h1]
        simp
        omega
theorem ref_Find (d : DiskQ) (n : ByteArray) (hs : Srt d.1) (hl : d.1.length ≤ 100) : g_ref03_Find (d, (n, ())) = some (bif (getF d.1 n).isSome then (rankF d.1 n : Int) else -1) := by
  unfold g_ref03_Find
  rw [loop_over0 d.1 (fun i (b : Nat) => ((i : Int), ())) (fun l i => findF n l i) (fun i b => b = i) (b := 0) ?_ ?_ rfl (by rfl)]
  · rw [Option.bind_some, findF_end n d.1 0 hs]
    rfl
  · intro b _
    simp only [ltI', cond_false]
    rfl
  · intro i b hi hb
    subst hb
    simp only [ltI hi, cond_true, getI_at hi, Option.bind_some]
    rw [drop_at hi]
    generalize d.1[b] = f
    by_cases e : f.1 = n
    · right
      rw [decide_eq_true e, cond_true]
      unfold findF
      rw [if_pos e]
      rfl
    · left
      refine ⟨b + 1, ?_, rfl, ?_⟩
      · rw [decide_eq_false e, cond_false, wrap_succ (by omega)]
      · conv => lhs; unfold findF
        rw [if_neg e]
end Go.AI
