/- slot: what is kept by a write; SlotRight. -/
import Derived.Test.YtbcffodjbbcdhaaXSlotC
namespace Go.AI
open IntKind

theorem BytD.put {l : List FileQ} (h : BytD l) {f : FileQ} (hf : BytL f.2.1) : BytD (putF l f) := fun g hg => by
  rcases putF_mem hg with rfl | hg
  · exact hf
  · exact h g hg
theorem goD_byt {a b : DiskQ} (ha : BytD a.1) (hb : BytD b.1) : BytD (goD a b).1.1 := by
  rcases goD_len a b with h | h <;> rw [h] <;> assumption
theorem onD_byt {d : DiskQ} {ns : List ByteArray} {n : ByteArray} {k : FileQ → DiskQ × (Int × Unit)} (h : BytD d.1) (hk : ∀ f, getF d.1 n = some f → BytD (k f).1.1) : BytD (onD d ns n k).1.1 := by
  unfold onD
  split
  · exact h
  · split
    · exact h
    · exact hk _ (by assumption)
theorem cutD_byt {d : DiskQ} (h : BytD d.1) (n : ByteArray) (k : Int) : BytD (cutD d n k).1.1 := onD_byt h fun f hf => by
  split
  · exact h
  · exact goD_byt h (h.put ((h f (getF_mem hf)).take _))
theorem syncD_byt {d : DiskQ} (h : BytD d.1) (n : ByteArray) : BytD (syncD d n).1.1 := onD_byt h fun f hf => goD_byt h (h.put (h f (getF_mem hf)))
theorem fileOf_byt {l : List FileQ} (h : BytD l) (n : ByteArray) : BytL (fileOf l n).2.1 := by
  unfold fileOf
  cases hf : getF l n with
  | none => exact BytL.nil
  | some f => exact h f (getF_mem hf)
theorem appD_byt {d : DiskQ} (h : BytD d.1) (n : ByteArray) {b : List Int} (hb : BytL b) : BytD (appD d n b).1.1 := by
  unfold appD
  split
  · exact h
  · split
    · exact h
    · exact goD_byt (h.put ((fileOf_byt h n).app hb)) (h.put ((fileOf_byt h n).app hb))
theorem cut0_byt {d : DiskQ} (h : BytD d.1) (n : ByteArray) : BytD (cut0 d n).1.1 := by
  unfold cut0
  cases (getF d.1 n).isSome
  · exact h
  · exact cutD_byt h n 0
theorem wrS_byt {d : DiskQ} (h : BytD d.1) (n : ByteArray) {b : List Int} (hb : BytL b) : BytD (wrS d n b).1.1 := by
  unfold wrS
  have h1 := cut0_byt h n
  have h2 := appD_byt h1 n hb
  cases (cut0 d n).2.1 != 0
  · cases (appD (cut0 d n).1 n b).2.1 != 0
    · exact syncD_byt h2 n
    · exact h2
  · exact h1
theorem writeS_byt {d : DiskQ} (h : BytD d.1) (s : SltQ) : BytD (writeS d s).1.1 := by
  unfold writeS
  cases !(slotB s)
  · cases ((readS d).2.1 == 1) || ((readS d).2.1 == 9)
    · cases s.1 != (readS d).1.1 + 1
      · exact wrS_byt h _ (bytL_ints (slotN_byt s))
      · exact h
    · exact h
  · exact h
theorem wrS_right {d : DiskQ} (h : RightD d) (n : ByteArray) (b : List Int) : RightD (wrS d n b).1 := by
  unfold wrS
  have h1 := cut0_right h n
  have h2 := appD_right h1 n b
  cases (cut0 d n).2.1 != 0
  · cases (appD (cut0 d n).1 n b).2.1 != 0
    · exact syncD_right h2 n
    · exact h2
  · exact h1
theorem writeS_right {d : DiskQ} (h : RightD d) (s : SltQ) : RightD (writeS d s).1 := by
  unfold writeS
  cases !(slotB s)
  · cases ((readS d).2.1 == 1) || ((readS d).2.1 == 9)
    · cases s.1 != (readS d).1.1 + 1
      · exact wrS_right h _ _
      · exact h
    · exact h
  · exact h
theorem syncD_fuse (d : DiskQ) (n : ByteArray) : (syncD d n).1.2.2.1 ≤ d.2.2.1 := onD_fuse fun f => goD_fuse rfl
theorem wrS_fuse (d : DiskQ) (n : ByteArray) (b : List Int) : (wrS d n b).1.2.2.1 ≤ d.2.2.1 := by
  unfold wrS
  have h1 := cut0_fuse d n
  have h2 := appD_fuse (cut0 d n).1 n b
  have h3 := syncD_fuse (appD (cut0 d n).1 n b).1 n
  cases (cut0 d n).2.1 != 0
  · cases (appD (cut0 d n).1 n b).2.1 != 0
    · simp only [cond_false]; omega
    · simp only [cond_false, cond_true]; omega
  · simp only [cond_true]; omega
theorem writeS_fuse (d : DiskQ) (s : SltQ) : (writeS d s).1.2.2.1 ≤ d.2.2.1 := by
  unfold writeS
  cases !(slotB s)
  · cases ((readS d).2.1 == 1) || ((readS d).2.1 == 9)
    · cases s.1 != (readS d).1.1 + 1
      · exact wrS_fuse d _ _
      · exact Int.le_refl _
    · exact Int.le_refl _
  · exact Int.le_refl _
theorem wrS_len (d : DiskQ) (h : RightD d) (n : ByteArray) (b : List Int) : (wrS d n b).1.1.length ≤ 64 := (wrS_right h n b).len
theorem writeS_names {d : DiskQ} (hd : NamesOk d.1) (s : SltQ) : NamesOk (writeS d s).1.1 := by
  unfold writeS
  cases !(slotB s)
  · cases he : ((readS d).2.1 == 1) || ((readS d).2.1 == 9)
    · simp only [Bool.or_eq_false_iff, beq_eq_false_iff_ne] at he
      cases s.1 != (readS d).1.1 + 1
      · exact (wrS_right (readS_err he.1 he.2).1 _ _).namesOk
      · exact hd
    · exact hd
  · exact hd

/-! ### The fixed answer -/
def aw0 : DiskQ := ([], (99, (-1, (false, ()))))
theorem slot_awake : g_law14_awake () = some true := by
  have r0 : RightD aw0 := (rightB_iff aw0).1 (by kernel_rfl)
  have b0 : BytD aw0.1 := fun f hf => by cases hf
  have e1 : g_slot_Write (([], (99, ((-1), (false, ())))), ((1, (4, ())), ())) = some (writeS aw0 (1, (4, ()))) := slot_Write r0.namesOk b0 (by decide) (1, (4, ()))
  have r1 := writeS_right r0 (1, (4, ()))
  have b1 := writeS_byt b0 (1, (4, ()))
  have f1 := writeS_fuse aw0 (1, (4, ()))
  have f0 : aw0.2.2.1 = -1 := rfl
  unfold g_law14_awake
  have e0 : g_slot_Read (([], (99, ((-1), (false, ())))), ()) = some (readS aw0) := slot_Read r0.namesOk b0
  rw [e0, Option.bind_some, e1, Option.bind_some]
  generalize hw1 : writeS aw0 (1, (4, ())) = w1 at r1 b1 f1
  rw [slot_Write r1.namesOk b1 (by omega) (2, (7, ())), Option.bind_some]
  have r2 := writeS_right r1 (2, (7, ()))
  have b2 := writeS_byt b1 (2, (7, ()))
  have f2 := writeS_fuse w1.1 (2, (7, ()))
  generalize hw2 : writeS w1.1 (2, (7, ())) = w2 at r2 b2 f2
  rw [slot_Write r2.namesOk b2 (by omega) (2, (7, ())), Option.bind_some, slot_Read r2.namesOk b2, Option.bind_some, slot_Name]
  subst hw2
  subst hw1
  clear e0 e1 f0 f1 f2 b0 b1 b2 r0 r1 r2
  change _ = some true
  kernel_rfl

/-! ### SlotRight -/
structure RgDkB (d : DiskQ) : Prop where
  dk : RgDk d
  byt : BytD d.1
theorem bytL_wf {l : List Int} (h : ∀ x, List.Mem x l → (Lit.int .u8 x).wf = true) : BytL l := fun x hx => rg_u8 (h x hx)
theorem rgDkB {d : DiskQ} (h : Rg shDiskQ d) : RgDkB d := by
  refine ⟨rgDk h, fun f hf => ?_⟩
  obtain ⟨⟨h1, h2⟩, _⟩ := h
  have hm : List.Mem f d.1 := hf
  exact bytL_wf (h2 f hm).2.1.2
theorem mkS_ints_inj {a b : List Nat} (ha : byt a) (hb : byt b) (h : mkS (ints a) = mkS (ints b)) : a = b := by
  have := congrArg (fun x : ByteArray => x.data.toList.map UInt8.toNat) h
  simp only [mkS, List.map_map, ints] at this
  have id : ∀ l : List Nat, byt l → List.map (UInt8.toNat ∘ ((fun n : Int => UInt8.ofNat n.toNat) ∘ fun n : Nat => (n : Int))) l = l := by
    intro l hl
    conv => rhs; rw [← List.map_id l]
    apply List.map_congr_left
    intro x hx
    have := hl x hx
    simp only [Function.comp, Int.toNat_natCast, UInt8.toNat_ofNat', _root_.id]
    omega
  simpa [id a ha, id b hb] using this
theorem SlotRight_ok {d : DiskQ} (s : SltQ) {b : List Int} (hd : RgDkB d) (hb : BytL b) : g_law14_SlotRight (d, (s, (b, ()))) = some true := by
  obtain ⟨⟨hnm, hlen, hw⟩, hby⟩ := hd
  unfold g_law14_SlotRight
  dsimp only
  rw [slot_awake]
  simp only [Option.bind_some, Bool.not_true, cond_false]
  obtain ⟨sh, hsh, hs⟩ := ref_Short d
  rw [hsh, Option.bind_some]
  cases hc : (!sh) || decide ((b.length : Int) > 99) with
  | true => rfl
  | false =>
    simp only [Bool.or_eq_false_iff, Bool.not_eq_false'] at hc
    obtain ⟨hl70, _⟩ := hs hc.1
    simp only [cond_false]
    rw [slot_Encode, Option.bind_some, ref14_Right, Option.bind_some, slot_Right, Option.bind_some]
    simp only [bne_self_eq_false, cond_false]
    have e1 : (bif slotB s then (bif ((if slotB s = true then (ints (slotN s), ((0 : Int), ())) else ([], (1, ()))).2.1 != 0) then some true else (g_ref14_Encode (s, ())).bind (fun (v6 : List Int) => some (!(decide ((mkS (if slotB s = true then (ints (slotN s), ((0 : Int), ())) else ([], (1, ()))).1) = (mkS v6)))))).bind (fun (v7 : Bool) => some v7) else some false) = some false := by
      cases h : slotB s with
      | false => rfl
      | true =>
        simp only [cond_true, if_true, bne_self_eq_false, cond_false, ref14_Encode h, Option.bind_some, decide_true, Bool.not_true]
    rw [e1]
    simp only [Option.bind_some, Bool.false_or]
    have e2 : ((!(slotB s)) && (((if slotB s = true then (ints (slotN s), ((0 : Int), ())) else ([], (1, ()))).2.1 != 1) || (((if slotB s = true then (ints (slotN s), ((0 : Int), ())) else ([], (1, ()))).1.length : Int) != 0))) = false := by
      cases h : slotB s <;> rfl
    rw [e2, cond_false, slot_DecodeI hb, Option.bind_some, ref14_DecodeI hb, Option.bind_some]
    simp only [beq_self_eq_true, Bool.and_self, Bool.not_true, bne_self_eq_false, Bool.or_self, cond_false]
    rw [slot_Name, Option.bind_some, ref14_Name, Option.bind_some]
    simp only [decide_true, Bool.not_true, Option.bind_some, cond_false]
    rw [slot_Read hnm hby, Option.bind_some, ref14_Read hnm hby, Option.bind_some]
    simp only [beq_self_eq_true, Bool.and_self, Bool.not_true, bne_self_eq_false, Bool.or_self, cond_false]
    rw [slot_Write hnm hby hw, Option.bind_some, ref14_Write hnm hby hw, Option.bind_some]
    simp only [beq_self_eq_true, cond_true]
    have hl : (writeS d s).1.1.length ≤ maxLen := by
      unfold writeS
      cases !(slotB s)
      · cases he : ((readS d).2.1 == 1) || ((readS d).2.1 == 9)
        · simp only [Bool.or_eq_false_iff, beq_eq_false_iff_ne] at he
          cases s.1 != (readS d).1.1 + 1
          · have := wrS_len d (readS_err he.1 he.2).1 (nmS s.1) (ints (slotN s))
            simp only [cond_false]
            unfold maxLen; omega
          · exact hlen
        · exact hlen
      · exact hlen
    rw [ref_Same _ hl]
    rfl
theorem pure_SlotRight : ∀ a, Rg (consS [shDiskQ, (.cons (.int .i64) (.cons (.int .i64) .nil)), (.slice 1 (.int .u8))]) a → g_law14_SlotRight a = some true := by
  rintro ⟨d, s, b, ⟨⟩⟩ ⟨hd, _, hb, _⟩
  exact SlotRight_ok s (rgDkB hd) (bytL_wf hb.2)
end Go.AI
