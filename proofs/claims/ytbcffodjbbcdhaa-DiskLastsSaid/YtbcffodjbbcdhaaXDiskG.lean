/- disk: what the statements begin with; DiskRight. -/
import Derived.Test.YtbcffodjbbcdhaaXDiskF
namespace Go.AI
open IntKind

abbrev shFileQ : Sh := .cons .str (.cons (.slice 1 (.int .u8)) (.cons (.int .i64) .nil))
abbrev shDiskQ : Sh := .cons (.slice 3 shFileQ) (.cons (.int .i64) (.cons (.int .i64) (.cons .bool .nil)))
theorem rg_i64 {x : Int} (h : (Lit.int .i64 x).wf = true) : -9223372036854775808 ≤ x ∧ x < 9223372036854775808 := wf_i64 h
structure RgDk (d : DiskQ) : Prop where
  names : NamesOk d.1
  len : d.1.length ≤ maxLen
  fuse : d.2.2.1 < 9223372036854775808
theorem rgDk {d : DiskQ} (h : Rg shDiskQ d) : RgDk d := by
  obtain ⟨⟨h1, h2⟩, _, h3, _⟩ := h
  refine ⟨fun f hf => ?_, h1, (rg_i64 h3).2⟩
  have hm : List.Mem f d.1 := hf
  exact (h2 f hm).1

/-! ### The fixed answer -/
theorem size_one (x : UInt8) : (ByteArray.mk (List.toArray (x :: []))).size ≤ maxLen := by
  show 1 ≤ maxLen
  unfold maxLen
  omega
theorem names_one {l : List FileQ} (h : l.all (fun f => decide (f.1.size ≤ 16)) = true) : NamesOk l := fun f hf => by
  have := of_decide_eq_true (List.all_eq_true.1 h f hf)
  unfold maxLen
  omega
theorem awake_ok : g_law03_awake () = some true := by
  unfold g_law03_awake
  have : g_disk_New (9, ()) = some ((([], (9, (-1, (false, ())))) : DiskQ), (0, ())) := by
    rw [disk_New]
    rfl
  rw [this]
  simp only [Option.bind_some]
  have : g_disk_Append ((([], (9, (-1, (false, ())))) : DiskQ), ((ByteArray.mk (List.toArray (97 :: []))), ((120 :: (121 :: (122 :: []))), ()))) = some ((([((ByteArray.mk (List.toArray (97 :: []))), ([120, 121, 122], (0, ())))], (9, (-1, (false, ())))) : DiskQ), (0, ())) := by
    rw [disk_Append (names_one (by decide)) (size_one _) (by decide) _ (by decide)]
    kernel_rfl
  rw [this]
  simp only [Option.bind_some]
  have : g_disk_Sync ((([((ByteArray.mk (List.toArray (97 :: []))), ([120, 121, 122], (0, ())))], (9, (-1, (false, ())))) : DiskQ), ((ByteArray.mk (List.toArray (97 :: []))), ())) = some ((([((ByteArray.mk (List.toArray (97 :: []))), ([120, 121, 122], (3, ())))], (9, (-1, (false, ())))) : DiskQ), (0, ())) := by
    rw [disk_Sync (names_one (by decide)) (size_one _) (by decide)]
    kernel_rfl
  rw [this]
  simp only [Option.bind_some]
  have : g_disk_Append ((([((ByteArray.mk (List.toArray (97 :: []))), ([120, 121, 122], (3, ())))], (9, (-1, (false, ())))) : DiskQ), ((ByteArray.mk (List.toArray (97 :: []))), ((117 :: (118 :: (119 :: []))), ()))) = some ((([((ByteArray.mk (List.toArray (97 :: []))), ([120, 121, 122, 117, 118, 119], (3, ())))], (9, (-1, (false, ())))) : DiskQ), (0, ())) := by
    rw [disk_Append (names_one (by decide)) (size_one _) (by decide) _ (by decide)]
    kernel_rfl
  rw [this]
  simp only [Option.bind_some]
  have : g_disk_Append ((([((ByteArray.mk (List.toArray (97 :: []))), ([120, 121, 122, 117, 118, 119], (3, ())))], (9, (-1, (false, ())))) : DiskQ), ((ByteArray.mk (List.toArray (97 :: []))), ((49 :: (50 :: (51 :: (52 :: [])))), ()))) = some ((([((ByteArray.mk (List.toArray (97 :: []))), ([120, 121, 122, 117, 118, 119], (3, ())))], (9, (-1, (false, ())))) : DiskQ), (6, ())) := by
    rw [disk_Append (names_one (by decide)) (size_one _) (by decide) _ (by decide)]
    kernel_rfl
  rw [this]
  simp only [Option.bind_some]
  have : g_disk_Back ((([((ByteArray.mk (List.toArray (97 :: []))), ([120, 121, 122, 117, 118, 119], (3, ())))], (9, (-1, (false, ())))) : DiskQ), ((1 :: []), (0, ()))) = some ((([((ByteArray.mk (List.toArray (97 :: []))), ([120, 121, 122, 117], (4, ())))], (9, (0, (false, ())))) : DiskQ), (0, ())) := by
    rw [disk_Back (names_one (by decide)) _ (by decide)]
    kernel_rfl
  rw [this]
  simp only [Option.bind_some]
  have : g_disk_Read ((([((ByteArray.mk (List.toArray (97 :: []))), ([120, 121, 122, 117], (4, ())))], (9, (0, (false, ())))) : DiskQ), ((ByteArray.mk (List.toArray (97 :: []))), ())) = some ([120, 121, 122, 117], (0, ())) := by
    rw [disk_Read (names_one (by decide)) (size_one _)]
    kernel_rfl
  rw [this]
  simp only [Option.bind_some]
  have : g_disk_Append ((([((ByteArray.mk (List.toArray (97 :: []))), ([120, 121, 122, 117], (4, ())))], (9, (0, (false, ())))) : DiskQ), ((ByteArray.mk (List.toArray (98 :: []))), ((48 :: []), ()))) = some ((([((ByteArray.mk (List.toArray (97 :: []))), ([120, 121, 122, 117], (4, ()))), ((ByteArray.mk (List.toArray (98 :: []))), ([48], (0, ())))], (9, (0, (true, ())))) : DiskQ), (9, ())) := by
    rw [disk_Append (names_one (by decide)) (size_one _) (by decide) _ (by decide)]
    kernel_rfl
  rw [this]
  simp only [Option.bind_some]
  have : g_disk_Used ((([((ByteArray.mk (List.toArray (97 :: []))), ([120, 121, 122, 117], (4, ()))), ((ByteArray.mk (List.toArray (98 :: []))), ([48], (0, ())))], (9, (0, (true, ())))) : DiskQ), ()) = some 5 := by
    rw [disk_Used _ (by decide) (by decide)]
    rfl
  rw [this]
  have : g_disk_Right ((([((ByteArray.mk (List.toArray (97 :: []))), ([120, 121, 122, 117], (4, ()))), ((ByteArray.mk (List.toArray (98 :: []))), ([48], (0, ())))], (9, (0, (true, ())))) : DiskQ), ()) = some true := by
    rw [disk_Right _ (names_one (by decide))]
    kernel_rfl
  rw [this]
  rfl

/-! ### Short disks -/
def shortF : List FileQ → Int → (Int × Unit) ⊕ Bool
  | [], n => .inl (n, ())
  | f :: l, n => if f.2.1.length ≤ 70000 ∧ f.1.size ≤ 100 then shortF l (n + f.2.1.length) else .inr false
theorem shortF_end : ∀ (l : List FileQ) (n : Int), ∃ b, eX (fun v : Int × Unit => some (decide (v.1 ≤ 70000))) (shortF l n) = some b ∧ (b = true → n + usedF l ≤ 70000)
  | [], n => ⟨decide (n ≤ 70000), rfl, fun h => by have := of_decide_eq_true h; simpa [usedF] using this⟩
  | f :: l, n => by
    unfold shortF
    by_cases c : f.2.1.length ≤ 70000 ∧ f.1.size ≤ 100
    · rw [if_pos c]
      obtain ⟨b, h1, h2⟩ := shortF_end l (n + f.2.1.length)
      refine ⟨b, h1, fun hb => ?_⟩
      have := h2 hb
      simp only [usedF]
      omega
    · rw [if_neg c]
      exact ⟨false, rfl, fun h => by cases h⟩
theorem ref_Short (d : DiskQ) : ∃ b, g_ref03_Short (d, ()) = some b ∧ (b = true → d.1.length ≤ 70 ∧ usedF d.1 ≤ 70000) := by
  unfold g_ref03_Short
  dsimp only
  by_cases c : (d.1.length : Int) > 70
  · rw [decide_eq_true c, cond_true]
    exact ⟨false, rfl, fun h => by cases h⟩
  · rw [decide_eq_false c, cond_false]
    rw [loop_over0 d.1 (fun i (b : Int) => (b, ((i : Int), ()))) shortF (fun i b => 0 ≤ b ∧ b ≤ 70000 * i) (b := 0) ?_ ?_ (by simp) (by rfl)]
    · obtain ⟨b, h1, h2⟩ := shortF_end d.1 0
      refine ⟨b, by rw [Option.bind_some]; exact h1, fun hb => ⟨by omega, ?_⟩⟩
      have := h2 hb
      omega
    · intro b _
      simp only [ltI', cond_false]
      rfl
    · intro i b hi hb
      simp only [ltI hi, cond_true, getI_at hi, Option.bind_some]
      rw [drop_at hi]
      generalize d.1[i] = f
      have e : (bif (decide ((f.2.1.length : Int) > 70000)) then some true else some (decide (((ByteArray.size f.1) : Int) > 100))) = some (!(decide (f.2.1.length ≤ 70000 ∧ f.1.size ≤ 100))) := by
        by_cases h1 : f.2.1.length ≤ 70000
        · rw [decide_eq_false (by omega), cond_false]
          by_cases h2 : f.1.size ≤ 100
          · rw [decide_eq_false (by omega), decide_eq_true ⟨h1, h2⟩]; rfl
          · rw [decide_eq_true (by omega), decide_eq_false (fun h => h2 h.2)]; rfl
        · rw [decide_eq_true (by omega), cond_true, decide_eq_false (fun h => h1 h.1)]; rfl
      rw [e]
      simp only [Option.bind_some]
      by_cases c : f.2.1.length ≤ 70000 ∧ f.1.size ≤ 100
      · left
        refine ⟨b + f.2.1.length, ?_, by omega, ?_⟩
        · rw [decide_eq_true c, Bool.not_true, cond_false, wrap_i64_in (by omega) (by omega), wrap_succ (by omega)]
        · conv => lhs; unfold shortF
          rw [if_pos c]
      · right
        rw [decide_eq_false c, Bool.not_false, cond_true]
        unfold shortF
        rw [if_neg c]
        rfl

/-! ### DiskRight -/
theorem law_same (d : DiskQ) (e : Int) (hl : d.1.length ≤ maxLen) : g_law03_same (d, (e, (d, (e, ())))) = some true := by
  unfold g_law03_same
  rw [ref_Same d hl]
  simp
theorem law_same2 (x : DiskQ × (Int × Unit)) (h : x.1.1.length ≤ 100) : g_law03_same (x.1, (x.2.1, x)) = some true := law_same x.1 x.2.1 (by unfold maxLen; omega)
theorem goD_len (a b : DiskQ) : (goD a b).1.1 = a.1 ∨ (goD a b).1.1 = b.1 := by
  unfold goD
  split
  · exact .inl rfl
  · exact .inr rfl
theorem putF_len (l : List FileQ) (f : FileQ) : (putF l f).length ≤ l.length + 1 := by
  induction l with
  | nil => simp [putF]
  | cons x l ih =>
    simp only [putF]
    split
    · simp; omega
    · split <;> simp
theorem delF_len (l : List FileQ) (n : ByteArray) : (delF l n).length ≤ l.length := by
  induction l with
  | nil => simp [delF]
  | cons x l ih =>
    simp only [delF]
    split
    · simp
    · simp; omega
theorem onD_len {d : DiskQ} {ns : List ByteArray} {n : ByteArray} {k : FileQ → DiskQ × (Int × Unit)} {m : Nat} (h : d.1.length ≤ m) (hk : ∀ f, (k f).1.1.length ≤ m) : (onD d ns n k).1.1.length ≤ m := by
  unfold onD
  split
  · exact h
  · split
    · exact h
    · exact hk _
theorem appD_len (d : DiskQ) (n : ByteArray) (b : List Int) : (appD d n b).1.1.length ≤ d.1.length + 1 := by
  unfold appD
  split
  · simp
  · split
    · simp
    · rcases goD_len (putF d.1 (n, ((fileOf d.1 n).2.1 ++ b, (fileOf d.1 n).2.2)), d.2) (putF d.1 (n, ((fileOf d.1 n).2.1 ++ b, (fileOf d.1 n).2.2)), d.2) with h | h <;> rw [h] <;> exact putF_len _ _
theorem goD_le {a b : DiskQ} {m : Nat} (ha : a.1.length ≤ m) (hb : b.1.length ≤ m) : (goD a b).1.1.length ≤ m := by
  rcases goD_len a b with h | h <;> rw [h] <;> assumption

theorem DiskRight_ok (d : DiskQ) (n m : ByteArray) (b : List Int) (k : Int) (keep : List Int) (room : Int) (hnm : NamesOk d.1) (hlen : d.1.length ≤ maxLen) (hw : d.2.2.1 < 9223372036854775808) (hn : n.size ≤ maxLen) (hm : m.size ≤ maxLen) : g_law03_DiskRight (d, (n, (m, (b, (k, (keep, (room, ()))))))) = some true := by
  have hM : maxLen = 9223372036854775807 := rfl
  unfold g_law03_DiskRight
  rw [awake_ok]
  simp only [Option.bind_some, Bool.not_true, cond_false]
  obtain ⟨sb, hsb, hs⟩ := ref_Short d
  rw [hsb, Option.bind_some]
  cases hc : (((((!sb) || (decide (((ByteArray.size n) : Int) > 100))) || (decide (((ByteArray.size m) : Int) > 100))) || (decide ((b.length : Int) > 70000))) || (decide ((keep.length : Int) > 80))) with
  | true => rfl
  | false =>
    simp only [Bool.or_eq_false_iff, Bool.not_eq_false', decide_eq_false_iff_not] at hc
    obtain ⟨⟨⟨⟨h1, h2⟩, h3⟩, h4⟩, h5⟩ := hc
    obtain ⟨hl, hu⟩ := hs h1
    have l1 : ∀ x : DiskQ, x.1.length ≤ 100 → x.1.length ≤ maxLen := fun x h => by omega
    rw [cond_false, disk_Right d hnm, Option.bind_some, ref_Right d hnm, Option.bind_some]
    rw [show ((rightB d) != (rightB d)) = false by simp, cond_false, used_same, disk_Used d (by omega) hlen]
    simp only [Option.bind_some, bne_self_eq_false, cond_false]
    rw [disk_New, Option.bind_some]
    have e1 : (bif ((decide (room ≥ 0)) && (decide (room ≤ 65536))) then ((g_law03_same ((if 0 ≤ room ∧ room ≤ 65536 then (([], (room, (-1, (false, ())))), (0, ())) else (([], (0, (0, (false, ())))), (1, ())) : DiskQ × (Int × Unit)).1, ((if 0 ≤ room ∧ room ≤ 65536 then (([], (room, (-1, (false, ())))), (0, ())) else (([], (0, (0, (false, ())))), (1, ())) : DiskQ × (Int × Unit)).2.1, (([], (room, ((-1), (false, ())))), (0, ())))))).bind (fun (v9 : Bool) =>
          bif (!v9) then (some false).map .inr
          else some (.inl ()))
        else ((g_law03_same ((if 0 ≤ room ∧ room ≤ 65536 then (([], (room, (-1, (false, ())))), (0, ())) else (([], (0, (0, (false, ())))), (1, ())) : DiskQ × (Int × Unit)).1, ((if 0 ≤ room ∧ room ≤ 65536 then (([], (room, (-1, (false, ())))), (0, ())) else (([], (0, (0, (false, ())))), (1, ())) : DiskQ × (Int × Unit)).2.1, (([], (0, (0, (false, ())))), (1, ())))))).bind (fun (v10 : Bool) =>
         bif (!v10) then (some false).map .inr
         else some (.inl ()))) = some (.inl () : Unit ⊕ Bool) := by
      by_cases c : 0 ≤ room ∧ room ≤ 65536
      · rw [if_pos c, decide_eq_true c.1, decide_eq_true c.2, Bool.true_and, cond_true, law_same _ _ (by simp)]
        rfl
      · rw [if_neg c, show ((decide (room ≥ 0)) && (decide (room ≤ 65536))) = false by rw [← Bool.decide_and]; exact decide_eq_false c, cond_false, law_same _ _ (by simp)]
        rfl
    rw [e1, Option.bind_some]
    simp only [eX]
    rw [disk_Append hnm hn hw b (by omega), Option.bind_some, ref_Append hnm hn hw b (by omega), Option.bind_some]
    rw [law_same2 (appD d n b) (Nat.le_trans (appD_len d n b) (by omega))]
    simp only [Option.bind_some, Bool.not_true, cond_false]
    rw [disk_Sync hnm hn hw, Option.bind_some, ref_Sync hnm hn hw, Option.bind_some]
    rw [law_same2 (syncD d n) (onD_len (by omega) fun f => goD_le (by omega) (Nat.le_trans (putF_len _ _) (by omega)))]
    simp only [Option.bind_some, Bool.not_true, cond_false]
    rw [disk_Rename hnm hn hm hw, Option.bind_some, ref_Rename hnm hn hm hw, Option.bind_some]
    rw [law_same2 (renD d n m) (onD_len (by omega) fun f => goD_le (by omega) (Nat.le_trans (putF_len _ _) (by have := delF_len d.1 n; omega)))]
    simp only [Option.bind_some, Bool.not_true, cond_false]
    rw [disk_Remove hnm hn hw, Option.bind_some, ref_Remove hnm hn hw, Option.bind_some]
    rw [law_same2 (remD d n) (onD_len (by omega) fun f => goD_le (by omega) (Nat.le_trans (delF_len d.1 n) (by omega)))]
    simp only [Option.bind_some, Bool.not_true, cond_false]
    rw [disk_Cut hnm hn hw k, Option.bind_some, ref_Cut hnm hn hw k, Option.bind_some]
    rw [law_same2 (cutD d n k) (onD_len (by omega) fun f => by
      split
      · simp only; omega
      · exact goD_le (by omega) (Nat.le_trans (putF_len _ _) (by omega)))]
    simp only [Option.bind_some, Bool.not_true, cond_false]
    rw [disk_Read hnm hn, Option.bind_some, ref_Read hnm hn, Option.bind_some]
    simp only [decide_true, Bool.not_true, bne_self_eq_false, Bool.or_self, cond_false]
    rw [disk_Back hnm keep (by omega) k, Option.bind_some, ref_Back hnm keep (by omega) k, Option.bind_some]
    rw [law_same2 (backD d keep k) (by
      unfold backD
      split
      · simp only; omega
      · simp only [backL_length]; omega)]
    rfl
theorem pure_DiskRight : ∀ a, Rg (consS [shDiskQ, .str, .str, (.slice 1 (.int .u8)), (.int .i64), (.slice 1 (.int .i64)), (.int .i64)]) a → g_law03_DiskRight a = some true := by
  rintro ⟨d, n, m, b, k, keep, room, ⟨⟩⟩ ⟨hd, hn, hm, hb, hk, hkp, hr, _⟩
  obtain ⟨hnm, hlen, hw⟩ := rgDk hd
  exact DiskRight_ok d n m b k keep room hnm hlen hw hn hm
end Go.AI
