/- slot: which slot a disk has, and how one is written, on both sides. -/
import Derived.Test.YtbcffodjbbcdhaaXSlotB
import Derived.Test.YtbcffodjbbcdhaaXDiskN
namespace Go.AI
open IntKind

/-! ### Names -/
def sn0 : ByteArray := ByteArray.mk (List.toArray (115 :: (108 :: (111 :: (116 :: (46 :: (48 :: [])))))))
def sn1 : ByteArray := ByteArray.mk (List.toArray (115 :: (108 :: (111 :: (116 :: (46 :: (49 :: [])))))))
def nmS (g : Int) : ByteArray := bif (Int.tmod g 2) == 0 then sn0 else sn1
theorem slot_Name (g : Int) : g_slot_Name (g, ()) = some (nmS g) := by
  unfold g_slot_Name nmS
  dsimp only
  cases (Int.tmod g 2) == 0 <;> rfl
theorem ref14_Name (g : Int) : g_ref14_Name (g, ()) = some (nmS g) := by
  unfold g_ref14_Name nmS
  dsimp only [bne]
  cases (Int.tmod g 2) == 0 <;> rfl
theorem sn_ne : sn0 ≠ sn1 := fun h => by
  have := congrArg (fun b : ByteArray => b.data.toList) h
  simp [sn0, sn1] at this
theorem sn_lt : ltS sn0 sn1 = true := by kernel_rfl
theorem sn0_ok : nameB sn0 = true := by kernel_rfl
theorem sn1_ok : nameB sn1 = true := by kernel_rfl
theorem nmS_ok (g : Int) : nameB (nmS g) = true := by
  unfold nmS
  cases (Int.tmod g 2) == 0
  · exact sn1_ok
  · exact sn0_ok
theorem nmS_size (g : Int) : (nmS g).size ≤ maxLen := Nat.le_trans (nameB_size (nmS_ok g)) (by unfold maxLen; omega)

/-! ### Bytes of files -/
def BytL (l : List Int) : Prop := ∀ x ∈ l, 0 ≤ x ∧ x < 256
def natsI (l : List Int) : List Nat := l.map Int.toNat
theorem ints_nats {l : List Int} (h : BytL l) : ints (natsI l) = l := by
  unfold ints natsI
  rw [List.map_map]
  conv => rhs; rw [← List.map_id l]
  apply List.map_congr_left
  intro x hx
  have := (h x hx).1
  simp only [Function.comp, id]
  omega
theorem nats_byt {l : List Int} (h : BytL l) : byt (natsI l) := by
  intro x hx
  obtain ⟨y, hy, rfl⟩ := List.mem_map.1 hx
  have := h y hy
  omega
theorem nats_ints (l : List Nat) : natsI (ints l) = l := by
  unfold ints natsI
  rw [List.map_map]
  conv => rhs; rw [← List.map_id l]
  apply List.map_congr_left
  intro x _
  simp
theorem bytL_ints {l : List Nat} (h : byt l) : BytL (ints l) := by
  intro x hx
  obtain ⟨y, hy, rfl⟩ := List.mem_map.1 hx
  have := h y hy
  omega
theorem BytL.take {l : List Int} (h : BytL l) (k : Nat) : BytL (l.take k) := fun x hx => h x (List.mem_of_mem_take hx)
theorem BytL.app {l m : List Int} (h : BytL l) (h' : BytL m) : BytL (l ++ m) := fun x hx => (List.mem_append.1 hx).elim (h x) (h' x)
theorem BytL.nil : BytL [] := fun _ h => by cases h
def decI (l : List Int) : SltQ × (Int × Unit) := decS (natsI l)
theorem slot_DecodeI {l : List Int} (h : BytL l) : g_slot_Decode (l, ()) = some (decI l) := by
  conv => lhs; rw [← ints_nats h]
  exact slot_Decode (nats_byt h)
theorem ref14_DecodeI {l : List Int} (h : BytL l) : g_ref14_Decode (l, ()) = some (decI l) := by
  conv => lhs; rw [← ints_nats h]
  exact ref14_Decode (nats_byt h)
theorem decI_nil : decI [] = (noS, (2, ())) := decS_short (by decide)
theorem decI_short {l : List Int} (h : l.length ≠ 20) : decI l = (noS, (2, ())) := decS_short (by unfold natsI; rw [List.length_map]; exact h)
theorem decI_slot {s : SltQ} (h : slotB s = true) : decI (ints (slotN s)) = (s, (0, ())) := by
  unfold decI
  rw [nats_ints]
  exact decS_slot h
theorem decI_ok {l : List Int} (h : (decI l).2.1 = 0) : slotB (decI l).1 = true := decS_ok h

/-! ### Read -/
def BytD (l : List FileQ) : Prop := ∀ f ∈ l, BytL f.2.1
def datF (l : List FileQ) (n : ByteArray) : List Int := match getF l n with
  | none => []
  | some f => f.2.1
theorem datF_byt {l : List FileQ} (h : BytD l) (n : ByteArray) : BytL (datF l n) := by
  unfold datF
  split
  · exact BytL.nil
  · rename_i f hf
    exact h f (getF_mem hf)
def updS (b : SltQ) (r : SltQ × (Int × Unit)) (p : Int) : SltQ := bif ((r.2.1 == 0) && (Int.tmod r.1.1 2 == p)) && (decide (r.1.1 > b.1)) then r.1 else b
theorem updS_no (b : SltQ) (p : Int) : updS b (noS, (2, ())) p = b := rfl
def bestS (l : List FileQ) : SltQ := updS (updS noS (decI (datF l sn0)) 0) (decI (datF l sn1)) 1
def readS (d : DiskQ) : SltQ × (Int × Unit) := bif !(rightB d) then (noS, (1, ())) else bif d.2.2.2.1 then (noS, (9, ())) else bif (bestS d.1).1 == 0 then (noS, (7, ())) else (bestS d.1, (0, ()))
theorem updS_pos {b : SltQ} {l : List Int} {p : Int} (h : b = noS ∨ slotB b = true) : updS b (decI l) p = noS ∨ slotB (updS b (decI l) p) = true := by
  unfold updS
  cases h1 : (decI l).2.1 == 0 with
  | false => exact h
  | true =>
    have h1 : (decI l).2.1 = 0 := by simpa using h1
    cases (Int.tmod (decI l).1.1 2 == p) with
    | false => exact h
    | true =>
      cases decide ((decI l).1.1 > b.1) with
      | false => exact h
      | true => exact .inr (decI_ok h1)
theorem bestS_pos (l : List FileQ) : bestS l = noS ∨ slotB (bestS l) = true := updS_pos (updS_pos (.inl rfl))
theorem readD_err {d : DiskQ} {n : ByteArray} (h : errD d [n] = 0) : readD d n = (datF d.1 n, ((match getF d.1 n with | none => 7 | some _ => 0), ())) := by
  unfold readD datF
  rw [if_neg (by omega)]
  cases getF d.1 n <;> rfl
theorem slot_Read {d : DiskQ} (hd : NamesOk d.1) (hb : BytD d.1) : g_slot_Read (d, ()) = some (readS d) := by
  unfold g_slot_Read readS
  rw [disk_Right d hd, Option.bind_some]
  cases hr : rightB d with
  | false => rfl
  | true =>
    have hR := (rightB_iff d).1 hr
    simp only [Bool.not_true, cond_false]
    cases hdn : d.2.2.2.1 with
    | true => rfl
    | false =>
      simp only [cond_false]
      have rd : ∀ p, g_disk_Read (d, (nmS p, ())) = some (readD d (nmS p)) := fun p => disk_Read hd (nmS_size p)
      have re : ∀ p, readD d (nmS p) = (datF d.1 (nmS p), ((match getF d.1 (nmS p) with | none => 7 | some _ => 0), ())) := fun p => readD_err (errD_ok hR hdn (by simpa using nmS_ok p))
      have e0 : nmS 0 = sn0 := rfl
      have e1 : nmS 1 = sn1 := rfl
      have st : ∀ (b : SltQ) (r : SltQ × (Int × Unit)) (p : Int), (bif (r.2.1 == 0) then some ((Int.tmod r.1.1 2) == p) else some false).bind (fun (v6 : Bool) => (bif (v6 && (decide (r.1.1 > b.1))) then some r.1 else some b).bind (fun (v7 : SltQ) => some (.inl ((IntKind.wrap .i64 (p + 1)), v7) : (Int × SltQ) ⊕ SltQ))) = some (.inl (IntKind.wrap .i64 (p + 1), updS b r p)) := by
        intro b r p
        unfold updS
        cases r.2.1 == 0 with
        | false => rfl
        | true =>
          simp only [cond_true, Option.bind_some, Bool.true_and]
          cases Int.tmod r.1.1 2 == p with
          | false => rfl
          | true => cases decide (r.1.1 > b.1) <;> rfl
      rw [loopO_next (t' := (1, updS noS (decI (datF d.1 sn0)) 0)) ?_, loopO_next (t' := (2, bestS d.1)) ?_, loopO_out (e := bestS d.1) ?_]
      · simp only [Option.bind_some]
        cases (bestS d.1).1 == 0 <;> rfl
      · rfl
      · rw [show decide ((1 : Int) < 2) = true from rfl]
        have r1 : g_disk_Read (d, (sn1, ())) = some (readD d sn1) := rd 1
        have q1 := re 1
        rw [e1] at q1
        simp only [cond_true, slot_Name, e1, r1, q1, Option.bind_some, slot_DecodeI (datF_byt hb _), st]
        rfl
      · rw [show decide ((0 : Int) < 2) = true from rfl]
        have r1 : g_disk_Read (d, (sn0, ())) = some (readD d sn0) := rd 0
        have q1 := re 0
        rw [e0] at q1
        simp only [cond_true, slot_Name, e0, r1, q1, Option.bind_some, slot_DecodeI (datF_byt hb _)]
        exact st noS (decI (datF d.1 sn0)) 0

def stepR (b : SltQ) (f : FileQ) : SltQ := bif (((decI f.2.1).2.1 == 0) && (decide (f.1 = nmS (decI f.2.1).1.1))) && (decide ((decI f.2.1).1.1 > b.1)) then (decI f.2.1).1 else b
def foldR : List FileQ → SltQ → SltQ
  | [], b => b
  | f :: l, b => foldR l (stepR b f)
theorem stepR_0 (b : SltQ) {f : FileQ} (h : f.1 = sn0) : stepR b f = updS b (decI f.2.1) 0 := by
  unfold stepR updS nmS
  rw [h]
  cases h0 : Int.tmod (decI f.2.1).1.1 2 == 0 with
  | true => rw [show (bif true then sn0 else sn1) = sn0 from rfl, decide_eq_true (show sn0 = sn0 from rfl)]
  | false => rw [show (bif false then sn0 else sn1) = sn1 from rfl, decide_eq_false sn_ne]
theorem stepR_1 (b : SltQ) {f : FileQ} (h : f.1 = sn1) : stepR b f = updS b (decI f.2.1) 1 := by
  unfold stepR updS nmS
  rw [h]
  cases ho : (decI f.2.1).2.1 == 0 with
  | false => rfl
  | true =>
    have hs := (slotB_iff _).1 (decI_ok (l := f.2.1) (by simpa using ho))
    have hm := Int.tmod_eq_emod_of_nonneg (a := (decI f.2.1).1.1) (b := 2) (by omega)
    cases h0 : Int.tmod (decI f.2.1).1.1 2 == 0 with
    | true =>
      have h0 : Int.tmod (decI f.2.1).1.1 2 = 0 := by simpa using h0
      rw [show (bif true then sn0 else sn1) = sn0 from rfl, decide_eq_false (fun e => sn_ne e.symm), h0]
      rfl
    | false =>
      have h0 : Int.tmod (decI f.2.1).1.1 2 ≠ 0 := by simpa using h0
      have h1 : Int.tmod (decI f.2.1).1.1 2 = 1 := by omega
      rw [show (bif false then sn0 else sn1) = sn1 from rfl, decide_eq_true (show sn1 = sn1 from rfl), h1]
      rfl
theorem stepR_no (b : SltQ) {f : FileQ} (h0 : f.1 ≠ sn0) (h1 : f.1 ≠ sn1) : stepR b f = b := by
  unfold stepR nmS
  have : decide (f.1 = bif Int.tmod (decI f.2.1).1.1 2 == 0 then sn0 else sn1) = false := by
    cases Int.tmod (decI f.2.1).1.1 2 == 0
    · exact decide_eq_false h1
    · exact decide_eq_false h0
  rw [this, Bool.and_false, Bool.false_and]
  rfl
theorem datF_cons (x : FileQ) (l : List FileQ) (n : ByteArray) : datF (x :: l) n = if x.1 = n then x.2.1 else datF l n := by
  unfold datF
  simp only [getF]
  by_cases h : x.1 = n
  · rw [if_pos h, if_pos h]
  · rw [if_neg h, if_neg h]
theorem datF_above {l : List FileQ} {n : ByteArray} (h : ∀ f ∈ l, f.1 ≠ n) : datF l n = [] := by
  unfold datF
  rw [getF_none h]
theorem foldR_two : ∀ {l : List FileQ} (b : SltQ), Srt l → foldR l b = updS (updS b (decI (datF l sn0)) 0) (decI (datF l sn1)) 1
  | [], b, _ => by
    show b = updS (updS b (decI []) 0) (decI []) 1
    rw [decI_nil]
    rfl
  | x :: l, b, h => by
    simp only [foldR]
    rw [foldR_two (stepR b x) h.tail, datF_cons, datF_cons]
    by_cases h0 : x.1 = sn0
    · have : datF l sn0 = [] := datF_above fun f hf => by rw [← h0]; exact (ltS_ne (h.head f hf)).symm
      rw [if_pos h0, if_neg (by rw [h0]; exact sn_ne), this, decI_nil, updS_no, stepR_0 b h0]
    · rw [if_neg h0]
      by_cases h1 : x.1 = sn1
      · have e1 : datF l sn1 = [] := datF_above fun f hf => by rw [← h1]; exact (ltS_ne (h.head f hf)).symm
        have e0 : datF l sn0 = [] := datF_above fun f hf => (ltS_ne (ltS_trans sn_lt (by rw [← h1]; exact h.head f hf))).symm
        rw [if_pos h1, e0, e1, decI_nil, updS_no, updS_no, updS_no, stepR_1 b h1]
      · rw [if_neg h1, stepR_no b h0 h1]
theorem foldR_best {l : List FileQ} (h : Srt l) : foldR l noS = bestS l := foldR_two noS h
theorem ref14_Read {d : DiskQ} (hd : NamesOk d.1) (hb : BytD d.1) : g_ref14_Read (d, ()) = some (readS d) := by
  unfold g_ref14_Read readS
  rw [ref_Right d hd, Option.bind_some]
  cases hr : rightB d with
  | false => rfl
  | true =>
    have hR := (rightB_iff d).1 hr
    have hlen := hR.len
    simp only [Bool.not_true, cond_false]
    cases hdn : d.2.2.2.1 with
    | true => rfl
    | false =>
      simp only [cond_false]
      rw [loop_over0 d.1 (fun i (b : SltQ) => ((i : Int), b)) foldR (fun _ _ => True) (b := noS) ?_ ?_ trivial (by rfl)]
      · simp only [Option.bind_some, foldR_best hR.srt]
        cases h0 : (bestS d.1).1 == 0 with
        | true =>
          rcases bestS_pos d.1 with h | h
          · rw [h]; rfl
          · have := (slotB_iff _).1 h
            have h0 : (bestS d.1).1 = 0 := by simpa using h0
            omega
        | false => rfl
      · intro b _
        simp only [ltI', cond_false]
        rfl
      · intro i b hi _
        left
        refine ⟨stepR b d.1[i], ?_, trivial, ?_⟩
        · simp only [ltI hi, cond_true, getI_at hi, Option.bind_some, ref14_DecodeI (hb _ (List.getElem_mem hi)), ref14_Name, wrap_succ (n := i) (by omega)]
          generalize d.1[i] = f
          unfold stepR
          cases (decI f.2.1).2.1 == 0 with
          | false => rfl
          | true =>
            simp only [cond_true, Option.bind_some, Bool.true_and]
            cases decide (f.1 = nmS (decI f.2.1).1.1) with
            | false => rfl
            | true => cases decide ((decI f.2.1).1.1 > b.1) <;> rfl
        · rw [drop_at hi]
          rfl

/-! ### Write -/
def cut0 (d : DiskQ) (n : ByteArray) : DiskQ × (Int × Unit) := bif (getF d.1 n).isSome then cutD d n 0 else (d, (0, ()))
def wrS (d : DiskQ) (n : ByteArray) (b : List Int) : DiskQ × (Int × Unit) :=
  bif (cut0 d n).2.1 != 0 then cut0 d n else bif (appD (cut0 d n).1 n b).2.1 != 0 then appD (cut0 d n).1 n b else syncD (appD (cut0 d n).1 n b).1 n
def writeS (d : DiskQ) (s : SltQ) : DiskQ × (Int × Unit) :=
  bif !(slotB s) then (d, (1, ())) else bif ((readS d).2.1 == 1) || ((readS d).2.1 == 9) then (d, (readS d).2) else bif s.1 != (readS d).1.1 + 1 then (d, (8, ())) else wrS d (nmS s.1) (ints (slotN s))

theorem readS_gen (d : DiskQ) : 0 ≤ (readS d).1.1 ∧ (readS d).1.1 ≤ 1000000000 := by
  have z : 0 ≤ noS.1 ∧ noS.1 ≤ 1000000000 := ⟨Int.le_refl _, by decide⟩
  unfold readS
  cases rightB d with
  | false => exact z
  | true =>
    cases d.2.2.2.1 with
    | true => exact z
    | false =>
      simp only [Bool.not_true, cond_false]
      cases h : (bestS d.1).1 == 0 with
      | true => exact z
      | false =>
        rcases bestS_pos d.1 with h | h
        · rw [cond_false, h]; exact z
        · obtain ⟨h1, h2, _, _⟩ := (slotB_iff _).1 h
          rw [cond_false]
          exact ⟨Int.le_trans (by decide) h1, h2⟩
theorem readS_err {d : DiskQ} (h1 : (readS d).2.1 ≠ 1) (h9 : (readS d).2.1 ≠ 9) : RightD d ∧ d.2.2.2.1 = false := by
  unfold readS at h1 h9
  cases hr : rightB d with
  | false => rw [hr] at h1; exact absurd rfl h1
  | true =>
    rw [hr] at h9
    cases hdn : d.2.2.2.1 with
    | true => rw [hdn] at h9; exact absurd rfl h9
    | false => exact ⟨(rightB_iff d).1 hr, rfl⟩
theorem goD_fuse {a b : DiskQ} (h : b.2.2.1 = a.2.2.1) : (goD a b).1.2.2.1 ≤ a.2.2.1 := by
  unfold goD
  split
  · exact Int.le_refl _
  · unfold burnD
    simp only
    split <;> omega
theorem onD_fuse {d : DiskQ} {ns : List ByteArray} {n : ByteArray} {k : FileQ → DiskQ × (Int × Unit)} (hk : ∀ f, (k f).1.2.2.1 ≤ d.2.2.1) : (onD d ns n k).1.2.2.1 ≤ d.2.2.1 := by
  unfold onD
  split
  · exact Int.le_refl _
  · split
    · exact Int.le_refl _
    · exact hk _
theorem cutD_fuse (d : DiskQ) (n : ByteArray) (k : Int) : (cutD d n k).1.2.2.1 ≤ d.2.2.1 := onD_fuse fun f => by
  split
  · exact Int.le_refl _
  · exact goD_fuse rfl
theorem appD_fuse (d : DiskQ) (n : ByteArray) (b : List Int) : (appD d n b).1.2.2.1 ≤ d.2.2.1 := by
  unfold appD
  split
  · exact Int.le_refl _
  · split
    · exact Int.le_refl _
    · exact goD_fuse (a := (putF d.1 (n, ((fileOf d.1 n).2.1 ++ b, (fileOf d.1 n).2.2)), d.2)) rfl
theorem cut0_right {d : DiskQ} (h : RightD d) (n : ByteArray) : RightD (cut0 d n).1 := by
  unfold cut0
  cases (getF d.1 n).isSome
  · exact h
  · exact cutD_right h n 0
theorem cut0_fuse (d : DiskQ) (n : ByteArray) : (cut0 d n).1.2.2.1 ≤ d.2.2.1 := by
  unfold cut0
  cases (getF d.1 n).isSome
  · exact Int.le_refl _
  · exact cutD_fuse d n 0
theorem slot_Write {d : DiskQ} (hd : NamesOk d.1) (hb : BytD d.1) (hw : d.2.2.1 < 9223372036854775808) (s : SltQ) : g_slot_Write (d, (s, ())) = some (writeS d s) := by
  unfold g_slot_Write writeS
  dsimp only
  rw [slot_Right, Option.bind_some]
  cases slotB s with
  | false => rfl
  | true =>
    simp only [Bool.not_true, cond_false]
    rw [slot_Read hd hb, Option.bind_some]
    have e3 : (bif ((readS d).2.1 == 1) then some (((readS d).2.1 == 1), ()) else some (((readS d).2.1 == 9), ())) = some ((((readS d).2.1 == 1) || ((readS d).2.1 == 9)), ()) := by
      cases (readS d).2.1 == 1 <;> rfl
    rw [e3, Option.bind_some]
    cases he : ((readS d).2.1 == 1) || ((readS d).2.1 == 9) with
    | true => rfl
    | false =>
      simp only [Bool.or_eq_false_iff, beq_eq_false_iff_ne] at he
      obtain ⟨hR, hdn⟩ := readS_err he.1 he.2
      have hg := readS_gen d
      simp only [cond_false]
      rw [wrap_i64_in (by omega) (by omega)]
      cases s.1 != (readS d).1.1 + 1 with
      | true => rfl
      | false =>
        simp only [cond_false]
        rw [slot_Name, Option.bind_some, slot_bytes, Option.bind_some, disk_Read hd (nmS_size s.1), Option.bind_some, readD_err (errD_ok hR hdn (by simpa using nmS_ok s.1))]
        have hlst := lst20_of (l := ints (slotN s)) (by rw [ints_length, slotN_len])
        generalize v20 (ints (slotN s)) = v at hlst
        unfold lst20 at hlst
        rw [hlst]
        generalize hn : nmS s.1 = n
        have hsz : n.size ≤ maxLen := hn ▸ nmS_size s.1
        have hbl : (ints (slotN s)).length ≤ 100000 := by rw [ints_length, slotN_len]; omega
        generalize ints (slotN s) = b at hbl
        have tail : ∀ c : DiskQ, RightD c → c.2.2.1 ≤ d.2.2.1 → ((g_disk_Append (c, (n, (b, ())))).bind (fun (v10 : (DiskQ × (Int × Unit))) => bif (v10.2.1 != 0) then some v10 else ((g_disk_Sync (v10.1, (n, ())))).bind (fun (v11 : (DiskQ × (Int × Unit))) => bif (v11.2.1 != 0) then some v11 else some (v11.1, (0, ()))))) = some (bif (appD c n b).2.1 != 0 then appD c n b else syncD (appD c n b).1 n) := by
          intro c hc hf
          rw [disk_Append hc.namesOk hsz (by omega) b hbl, Option.bind_some]
          cases h2 : (appD c n b).2.1 != 0 with
          | true => rfl
          | false =>
            have hf2 := appD_fuse c n b
            simp only [cond_false]
            rw [disk_Sync (appD_right hc n b).namesOk hsz (by omega), Option.bind_some]
            generalize syncD (appD c n b).1 n = z
            obtain ⟨z1, z2, z3⟩ := z
            cases h3 : z2 != 0 with
            | true => rfl
            | false =>
              have : z2 = 0 := by simpa using h3
              subst this
              rfl
        unfold wrS cut0
        cases hgf : getF d.1 n with
        | none =>
          simp only [Option.isSome_none, cond_false]
          exact (tail d hR (Int.le_refl _)).trans (by rfl)
        | some f =>
          simp only [Option.isSome_some, cond_true]
          rw [show ((0 : Int) == 7) = false from rfl, cond_false, disk_Cut hd hsz hw 0, Option.bind_some]
          cases h2 : (cutD d n 0).2.1 != 0 with
          | true => rfl
          | false =>
            simp only [cond_false]
            exact tail (cutD d n 0).1 (cutD_right hR n 0) (cutD_fuse d n 0)
theorem ref14_Write {d : DiskQ} (hd : NamesOk d.1) (hb : BytD d.1) (hw : d.2.2.1 < 9223372036854775808) (s : SltQ) : g_ref14_Write (d, (s, ())) = some (writeS d s) := by
  unfold g_ref14_Write writeS
  dsimp only
  rw [ref14_Read hd hb, Option.bind_some, ref14_Right]
  simp only [Option.bind_some]
  cases h1 : (readS d).2.1 == 1 with
  | true =>
    have e1 : (readS d).2 = (1, ()) := by
      have : (readS d).2.1 = 1 := by simpa using h1
      generalize (readS d).2 = z at this
      obtain ⟨z, _⟩ := z
      simp only at this
      rw [this]
    simp only [cond_true, Option.bind_some, Bool.true_or, e1]
    cases slotB s <;> rfl
  | false =>
    simp only [cond_false, Option.bind_some, Bool.false_or]
    cases hsr : slotB s with
    | false => rfl
    | true =>
      simp only [Bool.not_true, cond_false]
      cases h9 : (readS d).2.1 == 9 with
      | true =>
        have e1 : (readS d).2 = (9, ()) := by
          have : (readS d).2.1 = 9 := by simpa using h9
          generalize (readS d).2 = z at this
          obtain ⟨z, _⟩ := z
          simp only at this
          rw [this]
        rw [e1]
        rfl
      | false =>
        obtain ⟨hR, hdn⟩ := readS_err (d := d) (by simpa using h1) (by simpa using h9)
        have hg := readS_gen d
        simp only [cond_false]
        rw [wrap_i64_in (by omega) (by omega), show (((readS d).1.1 + 1) != s.1) = (s.1 != (readS d).1.1 + 1) by rw [Bool.eq_iff_iff]; simp only [bne_iff_ne, ne_eq]; exact ⟨fun h e => h e.symm, fun h e => h e.symm⟩]
        cases s.1 != (readS d).1.1 + 1 with
        | true => rfl
        | false =>
          simp only [cond_false]
          rw [ref14_Name, Option.bind_some, ref_Find d _ hR.srt (by have := hR.len; omega), Option.bind_some, ref14_Encode hsr]
          simp only [Option.bind_some]
          generalize hn : nmS s.1 = n
          have hsz : n.size ≤ maxLen := hn ▸ nmS_size s.1
          have hbl : (ints (slotN s)).length ≤ 100000 := by rw [ints_length, slotN_len]; omega
          generalize ints (slotN s) = b at hbl
          have tail : ∀ c : DiskQ, RightD c → c.2.2.1 ≤ d.2.2.1 → ((g_ref03_Append (c, (n, (b, ())))).bind (fun (v9 : (DiskQ × (Int × Unit))) => bif (v9.2.1 != 0) then some v9 else ((g_ref03_Sync (v9.1, (n, ())))).bind (fun (v10 : (DiskQ × (Int × Unit))) => some v10))) = some (bif (appD c n b).2.1 != 0 then appD c n b else syncD (appD c n b).1 n) := by
            intro c hc hf
            rw [ref_Append hc.namesOk hsz (by omega) b hbl, Option.bind_some]
            cases h2 : (appD c n b).2.1 != 0 with
            | true => rfl
            | false =>
              have hf2 := appD_fuse c n b
              simp only [cond_false]
              rw [ref_Sync (appD_right hc n b).namesOk hsz (by omega), Option.bind_some]
          unfold wrS cut0
          cases hgf : getF d.1 n with
          | none =>
            simp only [Option.isSome_none, cond_false]
            rw [show decide ((-1 : Int) ≥ 0) = false from rfl, cond_false]
            exact (tail d hR (Int.le_refl _)).trans (by rfl)
          | some f =>
            simp only [Option.isSome_some, cond_true]
            rw [decide_eq_true (show ((rankF d.1 n : Nat) : Int) ≥ 0 by omega), cond_true, ref_Cut hd hsz hw 0, Option.bind_some]
            cases h2 : (cutD d n 0).2.1 != 0 with
            | true => rfl
            | false =>
              simp only [cond_false]
              exact tail (cutD d n 0).1 (cutD_right hR n 0) (cutD_fuse d n 0)
end Go.AI
