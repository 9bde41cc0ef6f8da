/- disk: DiskJoins. -/
import Derived.Test.YtbcffodjbbcdhaaXDiskI
namespace Go.AI
open IntKind

theorem errD_name {d : DiskQ} (h : RightD d) (h1 : d.2.2.2.1 = false) (n : ByteArray) : errD d [n] = if nameB n = true then 0 else 1 := by
  unfold errD
  rw [(rightB_iff d).2 h, h1]
  simp only [Bool.not_true, cond_false, List.all_cons, List.all_nil, Bool.and_true]
  cases nameB n <;> rfl
theorem law_begins_any (a b : List Int) (h : b = a.take b.length) (hl : b.length ≤ a.length) : g_law03_begins (a, (b, ())) = some true := by
  have := law_begins a b.length hl
  rwa [← h] at this

/-- Bytes in two parts. -/
theorem app_two {d : DiskQ} (h : RightD d) (h1 : d.2.2.2.1 = false) (h2 : d.2.2.1 = -1) {n : ByteArray} (hn : nameB n = true) (a b : List Int) :
    ((appD d n (a ++ b)).2.1 = 0 → (appD d n a).2.1 = 0 ∧ appD (appD d n a).1 n b = appD d n (a ++ b)) ∧ ((appD d n a).2.1 = 0 → (appD (appD d n a).1 n b).2.1 = 0 → (appD d n (a ++ b)).2.1 = 0) := by
  have he : errD d [n] = 0 := errD_ok h h1 (by simpa using hn)
  have hen : ¬ (errD d [n] ≠ 0) := by simpa using he
  have part : ∀ c : List Int, ¬ (d.2.1 < usedF d.1 + c.length ∨ (getF d.1 n = none ∧ d.1.length = 64)) → appD d n c = ((putF d.1 (n, ((fileOf d.1 n).2.1 ++ c, (fileOf d.1 n).2.2)), d.2), (0, ())) := by
    intro c hc
    unfold appD
    rw [if_neg hen, if_neg hc, goD_freeL h2]
  have full : ∀ c : List Int, (d.2.1 < usedF d.1 + c.length ∨ (getF d.1 n = none ∧ d.1.length = 64)) → appD d n c = (d, (6, ())) := by
    intro c hc
    unfold appD
    rw [if_neg hen, if_pos hc]
  have one : ∀ hc : ¬ (d.2.1 < usedF d.1 + a.length ∨ (getF d.1 n = none ∧ d.1.length = 64)), RightD (putF d.1 (n, ((fileOf d.1 n).2.1 ++ a, (fileOf d.1 n).2.2)), d.2) := fun hc => h.app hn hc
  have used1 : usedF (putF d.1 (n, ((fileOf d.1 n).2.1 ++ a, (fileOf d.1 n).2.2))) = usedF d.1 + a.length := by
    unfold fileOf
    cases hg : getF d.1 n with
    | none => rw [usedF_putF_new (by exact hg)]; simp
    | some f =>
      have := usedF_putF_old h.srt (f := (n, (f.2.1 ++ a, f.2.2))) (g := f) hg
      simp only [Option.getD_some] at this ⊢
      rw [List.length_append] at this
      omega
  have two : ∀ (hc : ¬ (d.2.1 < usedF d.1 + a.length ∨ (getF d.1 n = none ∧ d.1.length = 64))), ¬ (d.2.1 < usedF d.1 + a.length + b.length) → appD (appD d n a).1 n b = ((putF d.1 (n, ((fileOf d.1 n).2.1 ++ (a ++ b), (fileOf d.1 n).2.2)), d.2), (0, ())) := by
    intro hc hc2
    rw [part a hc]
    have h1R := one hc
    unfold appD
    rw [if_neg (by rw [errD_ok h1R h1 (by simpa using hn)]; simp), if_neg]
    · dsimp only
      rw [goD_freeL h2]
      rw [fileOf_put h.srt (n, ((fileOf d.1 n).2.1 ++ a, (fileOf d.1 n).2.2))]
      dsimp only
      rw [putF_putF h.srt (f := (n, ((fileOf d.1 n).2.1 ++ a, (fileOf d.1 n).2.2))) (g := (n, (((fileOf d.1 n).2.1 ++ a) ++ b, (fileOf d.1 n).2.2))) rfl, List.append_assoc]
    · rintro (h3 | ⟨h3, _⟩)
      · simp only [used1] at h3
        omega
      · simp only at h3
        rw [getF_putF h.srt, if_pos rfl] at h3
        cases h3
  constructor
  · intro hw
    by_cases hc : d.2.1 < usedF d.1 + (a ++ b).length ∨ (getF d.1 n = none ∧ d.1.length = 64)
    · rw [full _ hc] at hw; cases hw
    · have hla : (a ++ b).length = a.length + b.length := List.length_append
      have hc1 : ¬ (d.2.1 < usedF d.1 + a.length ∨ (getF d.1 n = none ∧ d.1.length = 64)) := fun hh => hc (hh.imp (fun q => by omega) id)
      refine ⟨by rw [part a hc1], ?_⟩
      rw [two hc1 (fun q => hc (.inl (by omega))), part _ hc]
  · intro ho ht
    by_cases hc1 : d.2.1 < usedF d.1 + a.length ∨ (getF d.1 n = none ∧ d.1.length = 64)
    · rw [full _ hc1] at ho; cases ho
    · by_cases hc : d.2.1 < usedF d.1 + (a ++ b).length ∨ (getF d.1 n = none ∧ d.1.length = 64)
      · exfalso
        have hla : (a ++ b).length = a.length + b.length := List.length_append
        rw [part a hc1] at ht
        have h1R := one hc1
        unfold appD at ht
        rw [if_neg (by rw [errD_ok h1R h1 (by simpa using hn)]; simp), if_pos] at ht
        · cases ht
        · left
          simp only [used1]
          rcases hc with hc | hc
          · omega
          · exact absurd (.inr hc) hc1
      · rw [part _ hc]

theorem DiskJoins_ok (d : DiskQ) (n o : ByteArray) (a b : List Int) (k : Int) (hnm : NamesOk d.1) (hlen : d.1.length ≤ maxLen) (hw : d.2.2.1 < 9223372036854775808) (hn : n.size ≤ maxLen) (ho : o.size ≤ maxLen) : g_law03_DiskJoins (d, (n, (o, (a, (b, (k, ())))))) = some true := by
  have _ := hlen
  unfold g_law03_DiskJoins
  rw [awake_ok]
  simp only [Option.bind_some, Bool.not_true, cond_false]
  obtain ⟨sb, hsb, hs⟩ := ref_Short d
  rw [hsb, Option.bind_some]
  cases hc : (((((!sb) || (decide (((ByteArray.size n) : Int) > 100))) || (decide (((ByteArray.size o) : Int) > 100))) || (decide ((a.length : Int) > 3000))) || (decide ((b.length : Int) > 3000))) with
  | true => simp
  | false =>
    simp only [Bool.or_eq_false_iff, Bool.not_eq_false', decide_eq_false_iff_not] at hc
    obtain ⟨⟨⟨⟨h1, h2⟩, h3⟩, h4⟩, h5⟩ := hc
    rw [cond_false, disk_Right d hnm, Option.bind_some, Option.bind_some]
    cases hr : rightB d with
    | false => rfl
    | true =>
      have hR := (rightB_iff d).1 hr
      have h64 := hR.len
      cases hdn : d.2.2.2.1 with
      | true => rfl
      | false =>
        by_cases hf : d.2.2.1 = -1
        rotate_left
        · have e : (d.2.2.1 != (-1)) = true := by simpa using hf
          rw [e]
          simp
        have e : (d.2.2.1 != (-1)) = false := by simpa using hf
        rw [e]
        simp only [Bool.not_true, Bool.or_false, cond_false]
        rw [appX_ok (by simp; omega) (by simp [maxLen]; omega), Option.bind_some, List.nil_append, appX_ok (by omega) (by simp [maxLen]; omega), Option.bind_some]
        rw [disk_Append hnm hn hw (a ++ b) (by rw [List.length_append]; omega), Option.bind_some]
        rw [disk_Append hnm hn hw a (by omega), Option.bind_some]
        have hR1 := appD_right hR n a
        have hf1 : (appD d n a).1.2.2.1 = -1 := by
          unfold appD
          split
          · exact hf
          · split
            · exact hf
            · rw [goD_freeL hf]; exact hf
        rw [disk_Append hR1.namesOk hn (by rw [hf1]; decide) b (by omega), Option.bind_some]
        have he := errD_name hR hdn n
        by_cases hnb : nameB n = true
        rotate_left
        · rw [if_neg hnb] at he
          have ea : ∀ c, appD d n c = (d, (1, ())) := by
            intro c
            unfold appD
            rw [if_pos (by rw [he]; simp), he]
          rw [ea, ea, ea]
          simp only [show ((1 : Int) == 0) = false from rfl, show ((1 : Int) != 0) = true from rfl, cond_false, Option.bind_some, Bool.false_or, Bool.and_false]
          rw [disk_Read hnm hn, Option.bind_some]
          have er : readD d n = ([], (1, ())) := by
            unfold readD
            rw [if_pos (by rw [he]; simp), he]
          rw [er]
          rfl
        rw [if_pos hnb] at he
        obtain ⟨w1, w2⟩ := app_two hR hdn hf hnb a b
        have e12 : (bif ((appD d n (a ++ b)).2.1 == 0) then (
            bif (((appD d n a).2.1 != 0) || ((appD (appD d n a).1 n b).2.1 != 0)) then some true
            else ((g_ref03_Same ((appD d n (a ++ b)).1, ((appD (appD d n a).1 n b).1, ())))).bind (fun (v10 : Bool) =>
             some (!v10))).bind (fun (v11 : Bool) =>
            some v11)
          else some false) = some false := by
          by_cases hw0 : (appD d n (a ++ b)).2.1 = 0
          · obtain ⟨g1, g2⟩ := w1 hw0
            rw [g2, hw0, g1]
            simp only [beq_self_eq_true, cond_true, bne_self_eq_false, Bool.or_self, cond_false]
            rw [ref_Same _ (by have := (appD_right hR n (a ++ b)).len; unfold maxLen; omega)]
            rfl
          · have : ((appD d n (a ++ b)).2.1 == 0) = false := by simpa using hw0
            rw [this]
            rfl
        rw [e12, Option.bind_some]
        have e13 : (false || ((((appD d n (a ++ b)).2.1 != 0) && ((appD d n a).2.1 == 0)) && ((appD (appD d n a).1 n b).2.1 == 0))) = false := by
          rw [Bool.false_or]
          cases q1 : ((appD d n a).2.1 == 0) with
          | false => simp
          | true =>
            cases q2 : ((appD (appD d n a).1 n b).2.1 == 0) with
            | false => simp
            | true =>
              rw [w2 (by simpa using q1) (by simpa using q2)]
              rfl
        rw [e13, cond_false, disk_Read hnm hn, Option.bind_some]
        cases hg : getF d.1 n with
        | none =>
          have er : readD d n = ([], (7, ())) := by
            unfold readD
            rw [if_neg (by rw [he]; simp), hg]
          rw [er]
          rfl
        | some f =>
          have er : readD d n = (f.2.1, (0, ())) := by
            unfold readD
            rw [if_neg (by rw [he]; simp), hg]
          have hs := hR.sure f (getF_mem hg)
          have hsz := hR.size (getF_mem hg)
          rw [er]
          simp only [bne_self_eq_false, cond_false]
          rw [disk_Read hnm ho, Option.bind_some]
          have e14 : (bif ((readD d o).2.1 == 7) then ((g_disk_Rename (d, (n, (o, ()))))).bind (fun (v15 : (DiskQ × (Int × Unit))) =>
               ((g_disk_Rename (v15.1, (o, (n, ()))))).bind (fun (v16 : (DiskQ × (Int × Unit))) =>
                (
                 bif ((v15.2.1 != 0) || (v16.2.1 != 0)) then some true
                 else ((g_ref03_Same (v16.1, (d, ())))).bind (fun (v17 : Bool) =>
                  some (!v17))).bind (fun (v18 : Bool) =>
                 bif v18 then (some false).map .inr
                 else some (.inl ()))))
             else some (.inl ())) = some (.inl () : Unit ⊕ Bool) := by
            by_cases h7 : (readD d o).2.1 = 7
            rotate_left
            · have : ((readD d o).2.1 == 7) = false := by simpa using h7
              rw [this]
              rfl
            have : ((readD d o).2.1 == 7) = true := by simpa using h7
            rw [this, cond_true]
            have heo := errD_name hR hdn o
            have hob : nameB o = true := by
              cases q : nameB o with
              | true => rfl
              | false =>
                rw [q, if_neg (by simp)] at heo
                unfold readD at h7
                rw [if_pos (by rw [heo]; simp), heo] at h7
                cases h7
            have hgo : getF d.1 o = none := by
              cases q : getF d.1 o with
              | none => rfl
              | some g =>
                rw [if_pos hob] at heo
                unfold readD at h7
                rw [if_neg (by rw [heo]; simp), q] at h7
                cases h7
            rw [disk_Rename hnm hn ho hw, Option.bind_some]
            have er1 : renD d n o = ((putF (delF d.1 n) (o, f.2), d.2), (0, ())) := by
              unfold renD onD
              rw [if_neg (by rw [errD_ok hR hdn (by intro x hx; simp at hx; rcases hx with rfl | rfl <;> assumption)]; simp), hg]
              simp only
              rw [goD_freeD hf]
            rw [er1]
            have hR2 := hR.ren hg hob
            have hd1 := delF_srt hR.srt n
            have hgo2 : getF (putF (delF d.1 n) (o, f.2)) o = some (o, f.2) := by rw [getF_putF hd1, if_pos rfl]
            dsimp only
            rw [disk_Rename (d := (putF (delF d.1 n) (o, f.2), d.2)) hR2.namesOk ho hn hw, Option.bind_some]
            have er2 : renD (putF (delF d.1 n) (o, f.2), d.2) o n = (d, (0, ())) := by
              unfold renD onD
              rw [if_neg (by rw [errD_ok hR2 hdn (by intro x hx; simp at hx; rcases hx with rfl | rfl <;> assumption)]; simp)]
              simp only
              rw [hgo2]
              simp only
              rw [goD_freeL hf, ren_back hR.srt hg hgo]
            rw [er2]
            simp only [bne_self_eq_false, Bool.or_self, cond_false]
            rw [ref_Same d (by unfold maxLen; omega)]
            rfl
          rw [e14, Option.bind_some]
          simp only [eX]
          rw [disk_Cut hnm hn hw k, Option.bind_some]
          have ec : cutD d n k = if k < 0 ∨ (f.2.1.length : Int) < k then (d, (1, ())) else ((putF d.1 (cutF f k), d.2), (0, ())) := by
            unfold cutD onD
            rw [if_neg (by rw [he]; simp), hg]
            simp only
            split
            · rfl
            · rw [goD_freeD hf]
          rw [ec]
          by_cases c : k < 0 ∨ (f.2.1.length : Int) < k
          · rw [if_pos c]
            simp only
            rw [show ((decide (k < 0)) || (decide (k > (f.2.1.length : Int)))) = true by rw [← Bool.decide_or]; exact decide_eq_true c]
            rw [ref_Same d (by unfold maxLen; omega)]
            rfl
          · rw [if_neg c]
            simp only [bne_self_eq_false, cond_false]
            have hcf := cutF_ok hs.1 hs.2 (k := k) (by omega) (by omega)
            have hR3 : RightD (putF d.1 (cutF f k), d.2) := hR.same hg (show f.1 = n from getF_name hg) hcf.2 (by omega)
            rw [disk_Read (d := (putF d.1 (cutF f k), d.2)) hR3.namesOk hn, Option.bind_some]
            have er3 : readD (putF d.1 (cutF f k), d.2) n = ((cutF f k).2.1, (0, ())) := by
              unfold readD
              rw [if_neg (by rw [errD_ok hR3 hdn (by simpa using hnb)]; simp)]
              simp only
              rw [getF_putF hR.srt, if_pos (show (cutF f k).1 = n from (getF_name hg : f.1 = n))]
            rw [er3]
            simp only [beq_self_eq_true, Bool.true_and]
            rw [show (((cutF f k).2.1.length : Int) == k) = true by rw [beq_iff_eq]; exact hcf.1, cond_true]
            have : g_law03_begins (f.2.1, ((cutF f k).2.1, ())) = some true := law_begins f.2.1 k.toNat (by omega)
            rw [this]
            rfl

theorem pure_DiskJoins : ∀ a, Rg (consS [shDiskQ, .str, .str, (.slice 1 (.int .u8)), (.slice 1 (.int .u8)), (.int .i64)]) a → g_law03_DiskJoins a = some true := by
  rintro ⟨d, n, o, a, b, k, ⟨⟩⟩ ⟨hd, hn, ho, _⟩
  obtain ⟨hnm, hlen, hw⟩ := rgDk hd
  exact DiskJoins_ok d n o a b k hnm hlen hw hn ho
end Go.AI
