/- disk: DiskFuse. -/
import Derived.Test.YtbcffodjbbcdhaaXDiskK
namespace Go.AI
open IntKind

theorem cut100 (b : List Int) : subI b 0 (if (false = true) then (if (100 > (b.length : Int)) then 100 else (b.length : Int)) else (if (100 < (b.length : Int)) then 100 else (b.length : Int))) = some (b.take 100) := by
  simp only [Bool.false_eq_true, if_false]
  split
  · exact sub0 b 100 (by omega) (by omega)
  · rw [sub0 b _ (by omega) (by omega), Int.toNat_natCast, List.take_of_length_le (Nat.le_refl _), List.take_of_length_le (by omega)]
def cutX (x : DoQ) : DoQ := (x.1, (x.2.1, (x.2.2.1, (x.2.2.2.1, (x.2.2.2.2.1.take 100, ())))))
structure RgX (x : DoQ) : Prop where
  kind : 0 ≤ x.1
  n0 : 0 ≤ x.2.2.2.1
  n1 : x.2.2.2.1 < 256
  file : 0 ≤ x.2.1
abbrev shDoQ : Sh := .cons (.int .u8) (.cons (.int .u8) (.cons (.int .u8) (.cons (.int .u8) (.cons (.slice 1 (.int .u8)) .nil))))
theorem rgX {x : DoQ} (h : Rg shDoQ x) : RgX x := by
  obtain ⟨h1, h2, _, h4, _⟩ := h
  exact ⟨(rg_u8 h1).1, (rg_u8 h4).1, (rg_u8 h4).2, (rg_u8 h2).1⟩
theorem rgXs {l : List DoQ} (h : Rg (.slice 5 shDoQ) l) : ∀ x ∈ l, RgX x := fun x hx => rgX (h.2 x hx)
theorem law_doX {d : DiskQ} (h : RightD d) (hw : d.2.2.1 < 9223372036854775808) {x : DoQ} (hx : RgX x) : g_law03_do (d, ((x.1, (x.2.1, (x.2.2.1, (x.2.2.2.1, (x.2.2.2.2.1.take 100, ()))))), ())) = some (opD d (cutX x)) :=
  law_do h.namesOk hw (cutX x) ⟨hx.n0, hx.n1⟩ (by show (x.2.2.2.2.1.take 100).length ≤ 100000; rw [List.length_take]; omega)

theorem down_op {l : List FileQ} {room f : Int} (x : DoQ) (h : RightD (l, (room, (f, (true, ()))))) : opD (l, (room, (f, (true, ())))) x = ((l, (room, (f, (true, ())))), (9, ())) := by
  have he : ∀ ns, errD (l, (room, (f, (true, ())))) ns = 9 := by
    intro ns
    unfold errD
    rw [(rightB_iff _).2 h]
    rfl
  have hon : ∀ ns n k, onD (l, (room, (f, (true, ())))) ns n k = ((l, (room, (f, (true, ())))), (9, ())) := by
    intro ns n k
    unfold onD
    rw [he, if_pos (by decide)]
  unfold opD syncD renD remD cutD appD
  simp only [hon, he]
  split
  · rfl
  · split
    · rfl
    · split
      · rfl
      · split
        · rfl
        · rw [if_pos (by decide)]

structure FuseI (left : Int) (free burns : DiskQ) : Prop where
  rf : RightD free
  rb : RightD burns
  fuse : free.2.2.1 = -1
  fd : free.2.2.2.1 = false
  l0 : 0 ≤ left
  l1 : left < 1000
  bw : burns.2.2.1 < 1000
  alike : burns.2.2.2.1 = false → burns = (free.1, (free.2.1, (left, (false, ()))))

abbrev FS := Int × (Int × (List FileQ × (Int × (Int × (Bool × DiskQ)))))
def fsOf (left : Int) (i : Nat) (free burns : DiskQ) : FS := (left, ((i : Int), (free.1, (free.2.1, (free.2.2.1, (free.2.2.2.1, burns))))))

theorem DiskFuse_ok (script : List DoQ) (fuse room : Int) (hx : ∀ x ∈ script, RgX x) (hf0 : 0 ≤ fuse) (hf1 : fuse < 256) (hr0 : 0 ≤ room) (hr1 : room < 65536) : g_law03_DiskFuse (script, (fuse, (room, ()))) = some true := by
  unfold g_law03_DiskFuse
  rw [awake_ok]
  simp only [Option.bind_some, Bool.not_true, cond_false]
  by_cases hc : (script.length : Int) > 60
  · rw [decide_eq_true hc]
    rfl
  rw [decide_eq_false hc, cond_false]
  rw [wrap_i64_in (n := room) (by omega) (by omega), wrap_i64_in (n := fuse) (by omega) (by omega)]
  have hm : Int.tmod room 2000 = room % 2000 := Int.tmod_eq_emod_of_nonneg hr0
  have hm2 : 0 ≤ Int.tmod room 2000 ∧ Int.tmod room 2000 ≤ 65536 := by rw [hm]; omega
  generalize Int.tmod room 2000 = rm at hm2
  rw [disk_New, if_pos hm2]
  simp only [Option.bind_some, bne_self_eq_false, Bool.or_self, cond_false]
  have hR0 : ∀ f : Int, -1 ≤ f → RightD (([], (rm, (f, (false, ())))) : DiskQ) := fun f hf => ⟨hm2.1, hm2.2, hf, by simp, List.Pairwise.nil, (fun _ h => by cases h), (fun _ h => by cases h), by simpa [usedF] using hm2.1⟩
  generalize hstep : (fun v4 : FS => _) = step
  obtain ⟨o, h1, h2⟩ : ∃ o, loopO step (fsOf fuse 0 (([], (rm, (-1, (false, ())))) : DiskQ) (([], (rm, (fuse, (false, ())))) : DiskQ)) = some o ∧ ∃ free burns : DiskQ, o = .inl (free.1, (free.2.1, (free.2.2.1, (free.2.2.2.1, burns)))) ∧ RightD free ∧ RightD burns := by
    refine loop_meas (fun s : Int × (Nat × (DiskQ × DiskQ)) => fsOf s.1 s.2.1 s.2.2.1 s.2.2.2) (fun s => s.2.1 ≤ script.length ∧ FuseI s.1 s.2.2.1 s.2.2.2) _ (fun s => script.length - s.2.1) ?_ (x := (fuse, (0, ((([], (rm, (-1, (false, ())))) : DiskQ), (([], (rm, (fuse, (false, ())))) : DiskQ))))) ⟨Nat.zero_le _, hR0 _ (by omega), hR0 _ (by omega), rfl, rfl, hf0, by omega, by simp only; omega, fun _ => rfl⟩
    rintro ⟨left, i, free, burns⟩ ⟨hi, I⟩
    simp only at hi I
    subst hstep
    by_cases hlt : i < script.length
    rotate_left
    · right
      have hd : decide ((i : Int) < (script.length : Int)) = false := decide_eq_false (by omega)
      refine ⟨.inl (free.1, (free.2.1, (free.2.2.1, (free.2.2.2.1, burns)))), ?_, free, burns, rfl, I.rf, I.rb⟩
      dsimp only [fsOf]
      simp only [hd, cond_false]
      rfl
    left
    dsimp only [fsOf]
    simp only [ltI hlt, cond_true, getI_at hlt, Option.bind_some]
    have hxi := hx _ (List.getElem_mem hlt)
    generalize script[i] = x at hxi
    rw [cut100]
    simp only [Option.bind_some]
    obtain ⟨F, R, f, dn, ⟨⟩⟩ := free
    have hff : f = -1 := I.fuse
    have hdn : dn = false := I.fd
    subst hff hdn
    have hl0 := I.l0
    have hl1 := I.l1
    rw [law_doX (d := (F, (R, (-1, (false, ()))))) I.rf (by simp only; decide) hxi]
    rw [law_doX (d := burns) I.rb (by have := I.bw; omega) hxi]
    simp only [Option.bind_some]
    have hRf := opD_right I.rf (cutX x)
    have hRb := opD_right I.rb (cutX x)
    have hws : IntKind.wrap .i64 ((i : Int) + 1) = ((i + 1 : Nat) : Int) := wrap_succ (by omega)
    cases hbd : burns.2.2.2.1 with
    | true =>
      obtain ⟨B, BR, bf, bd, ⟨⟩⟩ := burns
      simp only at hbd
      subst hbd
      rw [down_op (cutX x) I.rb]
      refine ⟨(left, (i + 1, ((F, (R, (-1, (false, ())))), (B, (BR, (bf, (true, ()))))))), ?_, ⟨by simp only; omega, I⟩, by simp only; omega⟩
      simp only [bne_self_eq_false, cond_true, cond_false]
      rw [ref_Same _ (Nat.le_trans I.rb.len (by unfold maxLen; omega))]
      simp only [Option.bind_some, Bool.not_true, cond_false, eX]
      rw [hws]
    | false =>
      have hb := I.alike hbd
      simp only at hb
      subst hb
      obtain ⟨r, hfine, hr⟩ := opD_plan (cutX x) hxi.kind F R false
      have e1 := hr (-1) (by omega)
      have e2 := hr left (by omega)
      rw [e1] at hRf
      rw [e2] at hRb
      rw [e1, e2]
      cases r with
      | inl e =>
        have hfine : e ≠ 0 := hfine
        have he : (e == 0) = false := by simpa using hfine
        have he2 : (e != 0) = true := by simpa using hfine
        refine ⟨(left, (i + 1, ((F, (R, (-1, (false, ())))), (F, (R, (left, (false, ()))))))), ?_, ⟨by simp only; omega, I⟩, by simp only; omega⟩
        simp only [runP, he, he2, Bool.false_and, cond_false, cond_true, bne_self_eq_false]
        rw [ref_Same _ (Nat.le_trans I.rb.len (by unfold maxLen; omega))]
        simp only [Option.bind_some, Bool.not_true, cond_false, eX]
        rw [hws]
      | inr p =>
        obtain ⟨A, l⟩ := p
        have g1 : runP (.inr (A, l)) (F, (R, (-1, (false, ())))) = ((l, (R, (-1, (false, ())))), (0, ())) := goD_freeL rfl
        rw [g1] at hRf
        rw [g1]
        by_cases hz : left = 0
        · subst hz
          have g2 : runP (.inr (A, l)) (F, (R, (0, (false, ())))) = ((A, (R, (0, (true, ())))), (9, ())) := by
            show goD (A, (R, (0, (false, ())))) (l, (R, (0, (false, ())))) = _
            unfold goD
            rw [if_pos rfl]
            rfl
          rw [g2] at hRb
          rw [g2]
          refine ⟨(0, (i + 1, ((F, (R, (-1, (false, ())))), (A, (R, (0, (true, ()))))))), ?_, ⟨by simp only; omega, I.rf, hRb, rfl, rfl, by simp only; omega, by simp only; omega, by simp only; omega, fun h => by cases h⟩, by simp only; omega⟩
          have hu : (bif (decide ((Int.tmod x.1 6) > 1)) then ((g_disk_Used ((A, (R, (0, (true, ())))), ()))).bind (fun (v11 : Int) =>
                 ((g_disk_Used ((F, (R, (0, (false, ())))), ()))).bind (fun (v12 : Int) =>
                  some (v11 != v12)))
               else some false) = some false := by
            by_cases hk : Int.tmod x.1 6 > 1
            · have hA : A = F := hfine hk
              subst hA
              have hub := I.rb.used
              have hr1 := I.rb.room1
              have h64 := I.rb.len
              have ux : usedF A < 9223372036854775808 := by simp only at hub hr1; omega
              have u1 := disk_Used (A, (R, ((0 : Int), (true, ())))) ux (Nat.le_trans h64 (by unfold maxLen; omega))
              have u2 := disk_Used (A, (R, ((0 : Int), (false, ())))) ux (Nat.le_trans h64 (by unfold maxLen; omega))
              rw [decide_eq_true hk, cond_true, u1, Option.bind_some, u2]
              simp
            · rw [decide_eq_false hk]
              rfl
          simp only [cond_false, beq_self_eq_true, Bool.and_self, cond_true, bne_self_eq_false, Bool.not_true, Bool.or_self]
          rw [hu]
          simp only [Option.bind_some, cond_false, eX]
          rw [hws]
        · have g2 : runP (.inr (A, l)) (F, (R, (left, (false, ())))) = ((l, (R, (left - 1, (false, ())))), (0, ())) := by
            show goD (A, (R, (left, (false, ())))) (l, (R, (left, (false, ())))) = _
            unfold goD burnD
            simp only
            rw [if_neg hz, if_neg (by omega)]
          have hz2 : (left == 0) = false := by simpa using hz
          rw [g2] at hRb
          rw [g2]
          refine ⟨(left - 1, (i + 1, ((l, (R, (-1, (false, ())))), (l, (R, (left - 1, (false, ()))))))), ?_, ⟨by simp only; omega, hRf, hRb, rfl, rfl, by simp only; omega, by simp only; omega, by simp only; omega, fun _ => rfl⟩, by simp only; omega⟩
          simp only [cond_false, hz2, Bool.and_false, bne_self_eq_false, beq_self_eq_true, cond_true, Option.bind_some]
          rw [ref_Same _ (Nat.le_trans hRf.len (by unfold maxLen; omega))]
          have hwl : IntKind.wrap .i64 (left - 1) = left - 1 := wrap_i64_in (by omega) (by omega)
          simp only [Option.bind_some, hwl, Bool.not_true, bne_self_eq_false, Bool.or_self, cond_false, eX]
          rw [hws]
  obtain ⟨free, burns, rfl, hRf, hRb⟩ := h2
  have h1 : loopO step (fuse, (0, (([] : List FileQ), (rm, ((-1 : Int), (false, (([], (rm, (fuse, (false, ())))) : DiskQ))))))) = some (.inl (free.1, (free.2.1, (free.2.2.1, (free.2.2.2.1, burns))))) := h1
  rw [h1]
  simp only [Option.bind_some, eX]
  rw [disk_Right _ hRb.namesOk, (rightB_iff _).2 hRb]
  simp only [Option.bind_some, cond_true]
  rw [disk_Right (free.1, (free.2.1, (free.2.2.1, (free.2.2.2.1, ())))) hRf.namesOk, (rightB_iff _).2 (show RightD (free.1, (free.2.1, (free.2.2.1, (free.2.2.2.1, ())))) from hRf)]
  rfl

theorem pure_DiskFuse : ∀ a, Rg (consS [(.slice 5 shDoQ), (.int .u8), (.int .u16)]) a → g_law03_DiskFuse a = some true := by
  rintro ⟨script, fuse, room, ⟨⟩⟩ ⟨hs, hf, hr, _⟩
  exact DiskFuse_ok script fuse room (rgXs hs) (rg_u8 hf).1 (rg_u8 hf).2 (wf_u16 hr).1 (wf_u16 hr).2
end Go.AI
