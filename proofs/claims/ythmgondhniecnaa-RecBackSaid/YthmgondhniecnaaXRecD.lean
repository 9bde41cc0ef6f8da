/- rec: a record is read from its numbers, and from its frame's bytes, as it was; two records of one kind have the same numbers just if they are the same. -/
import Derived.Test.YthmgondhniecnaaXRecC
import Derived.Test.YthmgondhniecnaaXFrameH
namespace Go.AI
theorem unv_packV {r : RcR} (h : recP r) : unv r.1 (packV r) = r := by
  obtain ⟨k, o, ac, sy, sd, q, p, lo, sh, op, on, sq, w, ⟨⟩⟩ := r
  rcases h with ⟨rfl, h⟩ | ⟨rfl, h⟩ | ⟨rfl, h⟩ | ⟨rfl, h⟩ | ⟨rfl, h⟩ | ⟨rfl, h⟩
  · obtain ⟨_, _, _, _, _, _, rfl, rfl, rfl, rfl, rfl, rfl⟩ := h
    rfl
  · obtain ⟨_, rfl, rfl, rfl, _, _, rfl, rfl, rfl, rfl, rfl, rfl⟩ := h
    rfl
  · obtain ⟨_, rfl, rfl, rfl, rfl, rfl, rfl, rfl, rfl, rfl, rfl, rfl⟩ := h
    rfl
  · obtain ⟨rfl, _, _, rfl, rfl, rfl, _, _, _, rfl, rfl, rfl⟩ := h
    rfl
  · obtain ⟨rfl, rfl, rfl, rfl, rfl, rfl, rfl, rfl, rfl, rfl, rfl⟩ := h
    cases on <;> rfl
  · obtain ⟨_, rfl, rfl, rfl, rfl, rfl, rfl, rfl, _⟩ := h
    rfl
theorem unOk_packV {r : RcR} (h : recP r) : unOk r.1 (packV r) = true := by
  unfold unOk
  rw [unv_packV h, (recB_iff r).2 h, eq6_self]
  rfl
theorem unp_packV {r : RcR} (h : recP r) : unp r.1 (packV r) = (r, (0, ())) := by
  unfold unp
  rw [unOk_packV h, unv_packV h]
  rfl
theorem pack_in {r : RcR} (h : Rg shRec r) : ∀ P : Int → Prop, P 0 → P 1 → P r.2.1 → P r.2.2.1 → P r.2.2.2.1 → P r.2.2.2.2.1 → P r.2.2.2.2.2.1 → P r.2.2.2.2.2.2.1 → P r.2.2.2.2.2.2.2.1 → P r.2.2.2.2.2.2.2.2.1 → P r.2.2.2.2.2.2.2.2.2.1 → P r.2.2.2.2.2.2.2.2.2.2.2.1 → P r.2.2.2.2.2.2.2.2.2.2.2.2.1 →
    P (packV r).1 ∧ P (packV r).2.1 ∧ P (packV r).2.2.1 ∧ P (packV r).2.2.2.1 ∧ P (packV r).2.2.2.2.1 ∧ P (packV r).2.2.2.2.2.1 := by
  intro P h0 h1 a1 a2 a3 a4 a5 a6 a7 a8 a9 a10 a11
  unfold packV
  cases r.1 == 1
  · cases r.1 == 4
    · cases r.1 == 5
      · cases r.1 == 6
        · exact ⟨a1, a5, a6, h0, h0, h0⟩
        · exact ⟨a10, a11, a1, a5, a6, h0⟩
      · cases r.2.2.2.2.2.2.2.2.2.2.1
        · exact ⟨h0, h0, h0, h0, h0, h0⟩
        · exact ⟨h1, h0, h0, h0, h0, h0⟩
    · exact ⟨a2, a3, a7, a8, a9, h0⟩
  · exact ⟨a1, a2, a3, a4, a5, a6⟩
theorem pure_RecBack (a : RcR × (RcR × (Int × (SixR × Unit)))) (h : Rg (consS [shRec, shRec, .int .i64, .cons (.int .i64) shNote]) a) : g_law06_RecBack a = some true := by
  obtain ⟨r, s, k, b, u⟩ := a
  obtain ⟨hrr, _, _, _, _⟩ := h
  unfold g_law06_RecBack
  have e0 : g_rec_Unpack (k, (b, u)) = some (unp k b) := rec_Unpack k b
  simp only [rec_awake, Option.bind_some, Bool.not_true, cond_false, e0, rec_Right, rec_Pack, rec_Unpack, rec_Frame]
  have first : (bif ((unp k b).2.1 == 0) then
      (bif (((pak (unp k b).1).2.1 != 0) || (!eq6 (pak (unp k b).1).1 b)) || ((unp k b).1.1 != k) then some true else some (!recB (unp k b).1)).bind (fun v5 => bif v5 then (some false).map (Sum.inr (α := Unit)) else some (.inl ()))
      else some (.inl ())) = some (.inl ()) := by
    unfold unp
    cases hu : unOk k b
    · rfl
    · unfold unOk at hu
      rw [Bool.and_eq_true] at hu
      simp only [cond_true, pak, hu.1, hu.2, unv_kind, bne_self_eq_false, Bool.not_true, Bool.or_false, cond_false, Option.bind_some, beq_self_eq_true]
  have first' := first
  unfold eq6 at first'
  rw [first']
  simp only [Option.bind_some, eX]
  cases hr : recB r
  · rfl
  cases hs : recB s
  · rfl
  have pr := (recB_iff r).1 hr
  have ps := (recB_iff s).1 hs
  have inj : ((r.1 == s.1) && (eq6 (packV r) (packV s) != eqR r s)) = false := by
    by_cases hk : r.1 = s.1
    · have : eq6 (packV r) (packV s) = eqR r s := by
        rw [Bool.eq_iff_iff, eq6_iff, eqR_iff]
        constructor
        · intro h
          rw [← unv_packV pr, ← unv_packV ps, h, hk]
        · intro h; rw [h]
      rw [this, bne_self_eq_false, Bool.and_false]
    · have : (r.1 == s.1) = false := by simpa using hk
      rw [this, Bool.false_and]
  have hk := recB_kind hr
  have fB : frmB (2, (5, (r.1, (packV r, ())))) = true := by
    unfold frmB
    simp only [Bool.and_eq_true, decide_eq_true_eq]
    omega
  have fI : FrmIn (2, (5, (r.1, (packV r, ())))) := by
    obtain ⟨g1, g2, g3, g4, g5, g6, g7, g8, g9, g10, _, g12, g13, _⟩ := hrr
    have hp := pack_in (r := r) ⟨g1, g2, g3, g4, g5, g6, g7, g8, g9, g10, trivial, g12, g13, trivial⟩ (fun x => -9223372036854775808 ≤ x ∧ x < 9223372036854775808) (by omega) (by omega) (wf_i64 g2) (wf_i64 g3) (wf_i64 g4) (wf_i64 g5) (wf_i64 g6) (wf_i64 g7) (wf_i64 g8) (wf_i64 g9) (wf_i64 g10) (wf_i64 g12) (wf_i64 g13)
    exact ⟨by simp, by simp, by simp only; omega, hp⟩
  have eF : encF (2, (5, (r.1, (packV r, ())))) = (ints (codeF (2, (5, (r.1, (packV r, ()))))), (0, ())) := by
    unfold encF
    rw [if_pos fB]
  have inj' := inj
  unfold eq6 eqR at inj'
  have sr := eqR_self r
  unfold eqR at sr
  simp only [pak, hr, hs, cond_true, unp_packV pr, bne_self_eq_false, Bool.or_false, Bool.not_true, cond_false, Option.bind_some, sr, inj', frame_Enc, eF, frame_Decode _ (codeF_byt _), dec_code _ fB fI, rec_Of, beq_self_eq_true]
  rfl
end Go.AI
