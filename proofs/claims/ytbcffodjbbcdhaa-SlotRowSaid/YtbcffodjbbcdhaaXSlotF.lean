/- slot: SlotKeeps and SlotRow. -/
import Derived.Test.YtbcffodjbbcdhaaXSlotD
import Derived.Test.YtbcffodjbbcdhaaXSlotE
namespace Go.AI
open IntKind

theorem readS_up {d : DiskQ} (h : RightD d) (hu : d.2.2.2.1 = false) : readS d = (bestS d.1, ((if (bestS d.1).1 = 0 then 7 else 0), ())) := by
  unfold readS
  rw [(rightB_iff d).2 h, hu]
  simp only [Bool.not_true, cond_false]
  by_cases h0 : (bestS d.1).1 = 0
  · have e : ((bestS d.1).1 == 0) = true := by simpa using h0
    rw [e, cond_true, if_pos h0]
    rcases bestS_pos d.1 with h | h
    · rw [h]
    · have := (slotB_iff _).1 h; omega
  · have e : ((bestS d.1).1 == 0) = false := by simpa using h0
    rw [e, cond_false, if_neg h0]
theorem readS_code {d : DiskQ} (h : RightD d) (hu : d.2.2.2.1 = false) : (readS d).2.1 = 0 ∨ (readS d).2.1 = 7 := by
  rw [readS_up h hu]
  by_cases h0 : (bestS d.1).1 = 0
  · right; simp only [if_pos h0]
  · left; simp only [if_neg h0]
theorem writeS_wr {d : DiskQ} (h : RightD d) (hu : d.2.2.2.1 = false) {s : SltQ} (hs : slotB s = true) (hg : s.1 = (bestS d.1).1 + 1) : writeS d s = wrS d (nmS s.1) (ints (slotN s)) := by
  have hr := readS_up h hu
  unfold writeS
  rw [hs]
  have e1 : (((readS d).2.1 == 1) || ((readS d).2.1 == 9)) = false := by
    rcases readS_code h hu with e | e <;> rw [e] <;> rfl
  rw [e1, hr]
  simp only [Bool.not_true, cond_false]
  have e2 : (s.1 != (bestS d.1).1 + 1) = false := by rw [hg]; simp
  rw [e2, cond_false]
theorem backD_ok {d : DiskQ} (h : RightD d) (keep : List Int) (fuse : Int) (hf : -1 ≤ fuse) : backD d keep fuse = ((backL keep 0 d.1, (d.2.1, (fuse, (false, ())))), (0, ())) := by
  unfold backD
  rw [if_neg]
  rintro (hq | hq)
  · rw [(rightB_iff d).2 h] at hq; cases hq
  · omega
theorem slt_eq (a b : SltQ) : ((a.1 == b.1) && ((a.2.1 == b.2.1) && true)) = decide (a = b) := by
  obtain ⟨a1, a2, ⟨⟩⟩ := a
  obtain ⟨b1, b2, ⟨⟩⟩ := b
  rw [Bool.eq_iff_iff]
  simp

theorem SlotKeeps_ok {d : DiskQ} (lsn fuse : Int) (keep : List Int) (hd : RgDkB d) (hf0 : 0 ≤ fuse) (hf1 : fuse < 256) : g_law14_SlotKeeps (d, (lsn, (fuse, (keep, ())))) = some true := by
  obtain ⟨⟨hnm, hlen, hw⟩, hby⟩ := hd
  unfold g_law14_SlotKeeps
  dsimp only
  rw [slot_awake]
  simp only [Option.bind_some, Bool.not_true, cond_false]
  obtain ⟨sh, hsh, _⟩ := ref_Short d
  rw [hsh, Option.bind_some]
  cases hc : (((!sh) || decide ((keep.length : Int) > 9)) || decide (lsn < 0)) || decide (lsn > 1000000000) with
  | true => rfl
  | false =>
    simp only [Bool.or_eq_false_iff, decide_eq_false_iff_not] at hc
    obtain ⟨⟨⟨_, hk⟩, hl0⟩, hl1⟩ := hc
    simp only [cond_false]
    rw [wrap_i64_in (n := fuse) (by omega) (by omega)]
    have hfm : Int.tmod fuse 5 = fuse % 5 := Int.tmod_eq_emod_of_nonneg hf0
    rw [hfm, disk_Back hnm (65536 :: []) (by decide) (fuse % 5), Option.bind_some]
    by_cases hR : RightD d
    rotate_left
    · have : backD d [65536] (fuse % 5) = (d, (1, ())) := by
        unfold backD
        have hb : rightB d = false := by
          cases hb : rightB d with
          | false => rfl
          | true => exact absurd ((rightB_iff d).1 hb) hR
        rw [if_pos (.inl hb)]
      rw [this]
      rfl
    rw [backD_ok hR [65536] (fuse % 5) (by omega)]
    simp only [bne_self_eq_false, cond_false]
    have sR := backD_right hR [65536] (fuse % 5) (by omega)
    have sA : AllS (backL [65536] 0 d.1) := backL_all hR.sure
    have sB : BytD (backL [65536] 0 d.1) := backL_byt hby
    generalize backL [65536] 0 d.1 = S at sR sA sB
    have su : (S, (d.2.1, (fuse % 5, (false, ())))).2.2.2.1 = false := rfl
    have sf : (S, (d.2.1, (fuse % 5, (false, ())))).2.2.1 < 9223372036854775808 := by show fuse % 5 < _; omega
    rw [slot_Read sR.namesOk sB, Option.bind_some]
    have hrd := readS_up sR su
    have hg := readS_gen (S, (d.2.1, (fuse % 5, (false, ()))))
    rw [hrd] at hg ⊢
    simp only at hg ⊢
    have hcode : (((if (bestS S).1 = 0 then (7 : Int) else 0) != 0) && ((if (bestS S).1 = 0 then (7 : Int) else 0) != 7)) = false := by
      by_cases h0 : (bestS S).1 = 0
      · rw [if_pos h0]; rfl
      · rw [if_neg h0]; rfl
    rw [hcode, Bool.false_or]
    by_cases hmax : (bestS S).1 ≥ 999999999
    · rw [decide_eq_true hmax, cond_true, if_neg (by omega)]
      rfl
    · rw [decide_eq_false hmax, cond_false, wrap_i64_in (n := (bestS S).1 + 1) (by omega) (by omega)]
      generalize hnx : ((bestS S).1 + 1, (lsn, ())) = next
      have n1 : next.1 = (bestS S).1 + 1 := by rw [← hnx]
      have n2 : next.2.1 = lsn := by rw [← hnx]
      have hns : slotB next = true := (slotB_iff next).2 ⟨by omega, by omega, by omega, by omega⟩
      rw [slot_Write sR.namesOk sB sf next, Option.bind_some, writeS_wr sR su hns n1]
      have stp := step_ok sR su sA sB hns n1 keep
      generalize wrS (S, (d.2.1, (fuse % 5, (false, ())))) (nmS next.1) (ints (slotN next)) = r at stp
      have hroom : r.1.2.1 = d.2.1 := stp.out.room
      rw [disk_Back stp.out.right.namesOk keep (by omega) (-1), Option.bind_some, backD_ok stp.out.right keep (-1) (by decide), hroom]
      have yR : RightD (backL keep 0 r.1.1, (d.2.1, (-1, (false, ())))) := stp.right
      have yA := stp.all
      have yB := stp.byt
      have yo : ∀ m, m ≠ nmS next.1 → getF (backL keep 0 r.1.1) m = getF S m := stp.other
      have yk := stp.ok
      have yb : bestS (backL keep 0 r.1.1) = next ∨ bestS (backL keep 0 r.1.1) = bestS S := stp.best
      generalize backL keep 0 r.1.1 = y at yR yA yB yo yk yb
      rw [slot_Read (d := (y, (d.2.1, (-1, (false, ()))))) yR.namesOk yB, Option.bind_some, readS_up yR rfl]
      simp only [bne_self_eq_false, Bool.false_or]
      have eq1 : ∀ z : SltQ, ((z.1 == (bestS S).1 + 1) && ((z.2.1 == lsn) && true)) = decide (z = next) := by
        intro z
        rw [← hnx]
        exact slt_eq z ((bestS S).1 + 1, (lsn, ()))
      rw [eq1, slt_eq]
      have c1 : ((r.2.1 == 0) && ((!decide (bestS y = next)) || ((if (bestS y).1 = 0 then (7 : Int) else 0) != 0))) = false := by
        cases h0 : r.2.1 == 0 with
        | false => rfl
        | true =>
          have := yk (by simpa using h0)
          rw [this, decide_eq_true rfl, if_neg (by omega)]
          rfl
      rw [c1, cond_false]
      have c2 : ((!decide (bestS y = next)) && ((!decide (bestS y = bestS S)) || ((if (bestS y).1 = 0 then (7 : Int) else 0) != (if (bestS S).1 = 0 then (7 : Int) else 0)))) = false := by
        rcases yb with e | e
        · rw [e, decide_eq_true rfl]; rfl
        · rw [e, decide_eq_true (show bestS S = bestS S from rfl)]
          simp
      rw [c2, cond_false]
      rw [loop_st (fun i => ((i : Int), ())) (n := S.length) (out := .inl ()) ?_ ?_ (by rfl)]
      · simp only [Option.bind_some, eX]
        have yg : (bestS y).1 + 1 ≤ 1000000000 ∧ 0 ≤ (bestS y).1 := by
          rcases yb with e | e <;> rw [e] <;> omega
        rw [wrap_i64_in (n := (bestS y).1 + 1) (by omega) (by omega)]
        have ms : slotB ((bestS y).1 + 1, (lsn, ())) = true := (slotB_iff _).2 ⟨by simp only; omega, by simp only; omega, by simp only; omega, by simp only; omega⟩
        rw [slot_Write (d := (y, (d.2.1, (-1, (false, ()))))) yR.namesOk yB (by simp only; omega) ((bestS y).1 + 1, (lsn, ())), Option.bind_some, writeS_wr yR rfl ms rfl]
        have out := (wrS_out yR rfl yA (nmS_ok ((bestS y).1 + 1)) (ints (slotN ((bestS y).1 + 1, (lsn, ()))))).res
        rcases out with ⟨e, _⟩ | ⟨_, e, _⟩ | ⟨e, _⟩
        · rw [e]; rfl
        · exact absurd rfl e
        · rw [e]; rfl
      · intro i hi
        have hlen64 : S.length ≤ 64 := sR.len
        have hfm := List.getElem_mem hi
        have hfg := getF_of_mem sR.srt hfm
        simp only [ltI hi, cond_true, getI_at hi, Option.bind_some]
        generalize S[i] = f at hfm hfg
        have fn := sR.names f hfm
        have fsz : f.1.size ≤ maxLen := Nat.le_trans (nameB_size fn) (by unfold maxLen; omega)
        rw [disk_Read (d := (y, (d.2.1, (-1, (false, ()))))) yR.namesOk fsz, Option.bind_some, slot_Name, Option.bind_some, readD_err (errD_ok yR rfl (by simpa using fn))]
        rw [← n1]
        by_cases hn : f.1 = nmS next.1
        · rw [decide_eq_true hn]
          simp only [Bool.not_true, cond_false, Option.bind_some]
          rw [wrap_succ (n := i) (by omega)]
        · rw [decide_eq_false hn]
          have hgy := yo f.1 hn
          rw [hfg] at hgy
          simp only [Bool.not_false, cond_true, datF, hgy, Option.bind_some, bne_self_eq_false, cond_false, decide_true, Bool.not_true]
          rw [wrap_succ (n := i) (by omega)]
      · simp only [ltI', cond_false]
        rfl
theorem pure_SlotKeeps : ∀ a, Rg (consS [shDiskQ, (.int .i64), (.int .u8), (.slice 1 (.int .i64))]) a → g_law14_SlotKeeps a = some true := by
  rintro ⟨d, lsn, fuse, keep, ⟨⟩⟩ ⟨hd, _, hf, _⟩
  have := rg_u8 hf
  exact SlotKeeps_ok lsn fuse keep (rgDkB hd) this.1 this.2

/-! ### SlotRow -/
structure RowI (d : DiskQ) (was : SltQ) : Prop where
  right : RightD (d.1, (d.2.1, (-1, (false, ()))))
  all : AllS d.1
  byt : BytD d.1
  room : d.2.1 = 60
  up : d.2.2.2.1 = false
  best : bestS d.1 = was
  two : ∀ f ∈ d.1, f.1 = sn0 ∨ f.1 = sn1
  small : ∀ f ∈ d.1, f.2.1.length ≤ 20
theorem two_used {l : List FileQ} (hs : Srt l) (h2 : ∀ f ∈ l, f.1 = sn0 ∨ f.1 = sn1) (h20 : ∀ f ∈ l, f.2.1.length ≤ 20) {n : ByteArray} (hn : n = sn0 ∨ n = sn1) : usedF l ≤ (datF l n).length + 20 ∧ (getF l n = none → l.length ≤ 1) := by
  match l, hs, h2, h20 with
  | [], _, _, _ => exact ⟨by simp [usedF], fun _ => by simp⟩
  | [x], _, _, h20 =>
    have := h20 x List.mem_cons_self
    exact ⟨by simp only [usedF]; omega, fun _ => by simp⟩
  | [x, y], hs, h2, h20 =>
    have hx := h2 x List.mem_cons_self
    have hy := h2 y (List.mem_cons_of_mem _ List.mem_cons_self)
    have lx := h20 x List.mem_cons_self
    have ly := h20 y (List.mem_cons_of_mem _ List.mem_cons_self)
    have hlt := hs.head y List.mem_cons_self
    have hxy := ltS_ne hlt
    have hx0 : x.1 = sn0 := by
      rcases hx with h | h
      · exact h
      · rcases hy with h' | h'
        · rw [h, h', ltS_asymm sn_lt] at hlt; cases hlt
        · exact absurd (h.trans h'.symm) hxy
    have hy1 : y.1 = sn1 := by
      rcases hy with h' | h'
      · exact absurd (hx0.trans h'.symm) hxy
      · exact h'
    rcases hn with rfl | rfl
    · have : getF [x, y] sn0 = some x := by simp only [getF]; rw [if_pos hx0]
      unfold datF
      rw [this]
      exact ⟨by simp only [usedF]; omega, fun h => by cases h⟩
    · have : getF [x, y] sn1 = some y := by simp only [getF]; rw [if_neg (by rw [hx0]; exact sn_ne), if_pos hy1]
      unfold datF
      rw [this]
      exact ⟨by simp only [usedF]; omega, fun h => by cases h⟩
  | x :: y :: z :: l, hs, h2, _ =>
    exfalso
    have hx := h2 x List.mem_cons_self
    have hy := h2 y (List.mem_cons_of_mem _ List.mem_cons_self)
    have hz := h2 z (List.mem_cons_of_mem _ (List.mem_cons_of_mem _ List.mem_cons_self))
    have a := ltS_ne (hs.head y List.mem_cons_self)
    have b := ltS_ne (hs.head z (List.mem_cons_of_mem _ List.mem_cons_self))
    have c := ltS_ne (hs.tail.head z List.mem_cons_self)
    rcases hx with h1 | h1 <;> rcases hy with h2 | h2 <;> rcases hz with h3 | h3 <;> simp_all
theorem row_step {d : DiskQ} {was : SltQ} (h : RowI d was) (hwas : was = noS ∨ slotB was = true) {fuse : Int} (hf0 : -1 ≤ fuse) (i : Nat) (hi : was.1 ≤ 30) (hi2 : i ≤ 30) (keep : List Int) :
    ∃ r : DiskQ × (Int × Unit), writeS (d.1, (d.2.1, (fuse, (d.2.2.2.1, ())))) (was.1 + 1, ((i : Int), ())) = r ∧ (r.2.1 = 0 ∨ r.2.1 = 9) ∧ RightD r.1 ∧ ∃ y, backL keep 0 r.1.1 = y ∧ r.1.2.1 = 60 ∧
      (∃ now, RowI (y, (60, (-1, (false, ())))) now ∧ (now = noS ∨ slotB now = true) ∧ now.1 ≤ was.1 + 1 ∧ (now = (was.1 + 1, ((i : Int), ())) ∨ now = was) ∧ (r.2.1 = 0 → now = (was.1 + 1, ((i : Int), ())))) := by
  have hg0 : 0 ≤ was.1 := by
    rcases hwas with h | h
    · rw [h, noS_gen]; exact Int.le_refl _
    · have := (slotB_iff _).1 h; omega
  generalize hd0 : (d.1, (d.2.1, (fuse, (d.2.2.2.1, ())))) = d0
  have e1 : d0.1 = d.1 := by rw [← hd0]
  have e2 : d0.2.1 = 60 := by rw [← hd0]; exact h.room
  have e3 : d0.2.2.2.1 = false := by rw [← hd0]; exact h.up
  have e4 : d0.2.2.1 = fuse := by rw [← hd0]
  have hR : RightD d0 := by
    have := h.right
    exact ⟨by rw [e2]; decide, by rw [e2]; decide, by rw [e4]; exact hf0, by rw [e1]; exact this.len, by rw [e1]; exact this.srt, by rw [e1]; exact this.names, by rw [e1]; exact this.sure, by rw [e1, e2]; have := this.used; rw [h.room] at this; exact this⟩
  have hA : AllS d0.1 := by rw [e1]; exact h.all
  have hB : BytD d0.1 := by rw [e1]; exact h.byt
  have hb : bestS d0.1 = was := by rw [e1]; exact h.best
  generalize hnx : (was.1 + 1, ((i : Int), ())) = next
  have n1 : next.1 = (bestS d0.1).1 + 1 := by rw [← hnx, hb]
  have hns : slotB next = true := (slotB_iff next).2 ⟨by rw [← hnx]; simp only; omega, by rw [← hnx]; simp only; omega, by rw [← hnx]; simp only; omega, by rw [← hnx]; simp only; omega⟩
  have n2 : next.1 = was.1 + 1 := by rw [← hnx]
  rw [writeS_wr hR e3 hns n1]
  have stp := step_ok hR e3 hA hB hns n1 keep
  generalize wrS d0 (nmS next.1) (ints (slotN next)) = r at stp
  have tu := two_used (l := d.1) (by have := h.right.srt; exact this) h.two h.small (n := nmS next.1) (nmS_01 _)
  have nofull : ¬ FullW d0 (nmS next.1) (ints (slotN next)) := by
    unfold FullW
    rw [e1, e2, ints_length, slotN_len]
    rintro (hq | ⟨hq, hq2⟩)
    · omega
    · have := tu.2 hq; omega
  have err : r.2.1 = 0 ∨ r.2.1 = 9 := by
    rcases stp.out.res with ⟨e, _⟩ | ⟨e, _⟩ | ⟨_, e, _⟩
    · exact .inl e
    · exact .inr e
    · exact absurd e nofull
  have yR := stp.right
  rw [e2] at yR
  have now : bestS (backL keep 0 r.1.1) = next ∨ bestS (backL keep 0 r.1.1) = was := by rw [← hb]; exact stp.best
  refine ⟨r, rfl, err, stp.out.right, _, rfl, by rw [stp.out.room, e2], bestS (backL keep 0 r.1.1), ⟨yR, stp.all, stp.byt, rfl, rfl, rfl, fun f hf => ?_, fun f hf => ?_⟩, bestS_pos _, ?_, now, fun h0 => stp.ok h0⟩
  · by_cases hn : f.1 = nmS next.1
    · rw [hn]; exact nmS_01 _
    · have hq := getF_of_mem yR.srt hf
      have := stp.other _ hn
      rw [this, e1] at hq
      exact h.two f (getF_mem hq)
  · have hq := getF_of_mem yR.srt hf
    by_cases hn : f.1 = nmS next.1
    · rw [hn] at hq
      rcases stp.own with e | ⟨f', e, e5 | e5⟩
      · rw [e] at hq; cases hq
      · rw [e] at hq; cases hq
        rw [e1] at e5
        exact h.small f (getF_mem e5)
      · rw [e] at hq; cases hq
        exact e5
    · have := stp.other _ hn
      rw [this, e1] at hq
      exact h.small f (getF_mem hq)
  · rcases now with e | e <;> rw [e] <;> omega
theorem row0 : RowI (([], (60, (-1, (false, ())))) : DiskQ) noS where
  right := (rightB_iff _).1 (by kernel_rfl)
  all := fun f hf => by cases hf
  byt := fun f hf => by cases hf
  room := rfl
  up := rfl
  best := by kernel_rfl
  two := fun f hf => by cases hf
  small := fun f hf => by cases hf
theorem SlotRow_ok {fuses keep : List Int} (hf : ∀ x ∈ fuses, 0 ≤ x ∧ x < 256) : g_law14_SlotRow (fuses, (keep, ())) = some true := by
  unfold g_law14_SlotRow
  dsimp only
  rw [slot_awake]
  simp only [Option.bind_some, Bool.not_true, cond_false]
  cases hc : (decide ((fuses.length : Int) > 30)) || (decide ((keep.length : Int) > 9)) with
  | true => rfl
  | false =>
    simp only [Bool.or_eq_false_iff, decide_eq_false_iff_not] at hc
    obtain ⟨hl, hk⟩ := hc
    simp only [cond_false]
    have main := loop_meas (ε := (List FileQ × (Int × (Int × (Bool × SltQ)))) ⊕ Bool) (σ := Nat × (DiskQ × SltQ)) (step := fun (v2 : (Int × ((List FileQ) × (Int × (Int × (Bool × SltQ)))))) =>
      bif (decide (v2.1 < (fuses.length : Int))) then ((getI fuses v2.1)).bind (fun (v3 : Int) =>
        ((g_slot_Write ((v2.2.1, (v2.2.2.1, ((IntKind.wrap .i64 ((Int.tmod (IntKind.wrap .i64 v3) 6) - 1)), (v2.2.2.2.2.1, ())))), (((IntKind.wrap .i64 (v2.2.2.2.2.2.1 + 1)), (v2.1, ())), ())))).bind (fun (v4 : (DiskQ × (Int × Unit))) =>
         bif ((v4.2.1 != 0) && (v4.2.1 != 9)) then ((some false).map .inr).map .inr
         else ((g_disk_Back (v4.1, (keep, ((-1), ()))))).bind (fun (v5 : (DiskQ × (Int × Unit))) =>
          ((g_slot_Read (v5.1, ()))).bind (fun (v6 : (SltQ × (Int × Unit))) =>
           bif (((v5.2.1 != 0) || ((v6.2.1 != 0) && (v6.2.1 != 7))) || ((!((v6.1.1 == (IntKind.wrap .i64 (v2.2.2.2.2.2.1 + 1))) && ((v6.1.2.1 == v2.1) && true))) && ((v4.2.1 == 0) || (!((v6.1.1 == v2.2.2.2.2.2.1) && ((v6.1.2.1 == v2.2.2.2.2.2.2.1) && true)))))) then ((some false).map .inr).map .inr
           else some (.inl ((IntKind.wrap .i64 (v2.1 + 1)), (v5.1.1, (v5.1.2.1, (v5.1.2.2.1, (v5.1.2.2.2.1, v6.1))))))))))
      else (some (.inl v2.2)).map .inr)
      (fun x => ((x.1 : Int), (x.2.1.1, (x.2.1.2.1, (x.2.1.2.2.1, (x.2.1.2.2.2.1, x.2.2))))))
      (fun x => x.1 ≤ fuses.length ∧ RowI x.2.1 x.2.2 ∧ (x.2.2 = noS ∨ slotB x.2.2 = true) ∧ x.2.2.1 ≤ x.1)
      (fun o => ∃ z, o = .inl z ∧ (z.2.2.2.2 = noS ∨ slotB z.2.2.2.2 = true)) (fun x => fuses.length - x.1) ?_ (x := (0, ((([], (60, (-1, (false, ())))) : DiskQ), noS))) ⟨Nat.zero_le _, row0, .inl rfl, Int.le_refl _⟩
    · obtain ⟨o, ho, z, rfl, hz⟩ := main
      have ho' := ho
      simp only [Int.natCast_zero] at ho'
      refine (congrArg (fun o => Option.bind o _) ho').trans ?_
      simp only [Option.bind_some, eX, slot_Right]
      rcases hz with hz | hz
      · rw [hz]; rfl
      · rw [hz]; rfl
    · rintro ⟨i, d, was⟩ ⟨h1, h2, h3, h4⟩
      simp only at h1 h2 h3 h4 ⊢
      by_cases hi : i < fuses.length
      · left
        have hx := hf _ (List.getElem_mem hi)
        simp only [ltI hi, cond_true, getI_at hi, Option.bind_some]
        generalize fuses[i] = x at hx
        rw [wrap_i64_in (n := x) (by omega) (by omega), show Int.tmod x 6 = x % 6 from Int.tmod_eq_emod_of_nonneg hx.1, wrap_i64_in (n := x % 6 - 1) (by omega) (by omega)]
        have hw0 : 0 ≤ was.1 := by
          rcases h3 with h | h
          · rw [h, noS_gen]; exact Int.le_refl _
          · have := (slotB_iff _).1 h; omega
        rw [wrap_i64_in (n := was.1 + 1) (by omega) (by omega)]
        obtain ⟨r, hr, he, hRr, y, hy, hroom, now, hI, hn0, hn1, hn2, hn3⟩ := row_step h2 h3 (fuse := x % 6 - 1) (by omega) i (by omega) (by omega) keep
        have hRd : RightD (d.1, (d.2.1, (x % 6 - 1, (d.2.2.2.1, ())))) := by
          have := h2.right
          exact ⟨this.room0, this.room1, by simp only; omega, this.len, this.srt, this.names, this.sure, this.used⟩
        rw [slot_Write hRd.namesOk h2.byt (by simp only; omega) (was.1 + 1, ((i : Int), ())), Option.bind_some, hr]
        have b1 : ((r.2.1 != 0) && (r.2.1 != 9)) = false := by rcases he with e | e <;> rw [e] <;> rfl
        rw [b1, cond_false, disk_Back hRr.namesOk keep (by omega) (-1), Option.bind_some, backD_ok hRr keep (-1) (by decide), hy, hroom]
        have yR : RightD (y, (60, (-1, (false, ())))) := hI.right
        rw [slot_Read (d := (y, (60, (-1, (false, ()))))) yR.namesOk hI.byt, Option.bind_some, readS_up yR rfl]
        have hb : bestS y = now := hI.best
        simp only [hb]
        have c7 : (((if now.1 = 0 then (7 : Int) else 0) != 0) && ((if now.1 = 0 then (7 : Int) else 0) != 7)) = false := by
          by_cases h0 : now.1 = 0
          · rw [if_pos h0]; rfl
          · rw [if_neg h0]; rfl
        have q1 : ((now.1 == was.1 + 1) && ((now.2.1 == (i : Int)) && true)) = decide (now = (was.1 + 1, ((i : Int), ()))) := slt_eq now (was.1 + 1, ((i : Int), ()))
        rw [q1, slt_eq, c7]
        have c8 : ((!decide (now = (was.1 + 1, ((i : Int), ())))) && ((r.2.1 == 0) || (!decide (now = was)))) = false := by
          rcases hn2 with e | e
          · rw [decide_eq_true e]; rfl
          · rw [decide_eq_true e]
            cases h0 : r.2.1 == 0 with
            | true =>
              have := hn3 (by simpa using h0)
              rw [decide_eq_true this]; rfl
            | false => simp
        rw [c8]
        simp only [bne_self_eq_false, Bool.or_self, cond_false]
        refine ⟨(i + 1, ((y, (60, (-1, (false, ())))), now)), ?_, ⟨by simp only; omega, hI, hn0, by simp only; omega⟩, by simp only; omega⟩
        rw [wrap_succ (n := i) (by omega)]
      · right
        have : i = fuses.length := by omega
        subst this
        simp only [ltI', cond_false]
        exact ⟨_, rfl, _, rfl, h3⟩
theorem pure_SlotRow : ∀ a, Rg (consS [(.slice 1 (.int .u8)), (.slice 1 (.int .i64))]) a → g_law14_SlotRow a = some true := by
  rintro ⟨fuses, keep, ⟨⟩⟩ ⟨hf, _⟩
  exact SlotRow_ok (bytL_wf hf.2)
end Go.AI
