/- disk: things done one behind the other; DiskFuse. -/
import Derived.Test.YtbcffodjbbcdhaaXDiskJ
namespace Go.AI
open IntKind

abbrev DoQ := Int × (Int × (Int × (Int × (List Int × Unit))))

def nmD (f : Int) : ByteArray := mkS ((IntKind.wrap .u8 (97 + (Int.tmod f 4))) :: [])
theorem nmD_size (f : Int) : (nmD f).size ≤ maxLen := by
  show 1 ≤ maxLen
  unfold maxLen
  omega
theorem nmD_ok {f : Int} (h : 0 ≤ f) : nameB (nmD f) = true := by
  have e : Int.tmod f 4 = f % 4 := Int.tmod_eq_emod_of_nonneg h
  have h4 : f % 4 = 0 ∨ f % 4 = 1 ∨ f % 4 = 2 ∨ f % 4 = 3 := by omega
  unfold nmD
  rw [e]
  rcases h4 with h | h | h | h <;> rw [h] <;> rfl

def opD (d : DiskQ) (x : DoQ) : DiskQ × (Int × Unit) :=
  if Int.tmod x.1 6 = 2 then syncD d (nmD x.2.1)
  else if Int.tmod x.1 6 = 3 then renD d (nmD x.2.1) (nmD x.2.2.1)
  else if Int.tmod x.1 6 = 4 then remD d (nmD x.2.1)
  else if Int.tmod x.1 6 = 5 then cutD d (nmD x.2.1) x.2.2.2.1
  else appD d (nmD x.2.1) x.2.2.2.2.1
theorem law_do {d : DiskQ} (hd : NamesOk d.1) (hw : d.2.2.1 < 9223372036854775808) (x : DoQ) (hx : 0 ≤ x.2.2.2.1 ∧ x.2.2.2.1 < 256) (hb : x.2.2.2.2.1.length ≤ 100000) : g_law03_do (d, (x, ())) = some (opD d x) := by
  obtain ⟨k, f, t, n, b, ⟨⟩⟩ := x
  simp only at hx hb
  unfold g_law03_do opD
  have nm : ∀ f, g_law03_name (f, ()) = some (nmD f) := fun _ => rfl
  dsimp only
  by_cases h2 : Int.tmod k 6 = 2
  · rw [show (Int.tmod k 6 == 2) = true by simpa using h2, cond_true, if_pos h2, nm, Option.bind_some, disk_Sync hd (nmD_size _) hw]
    rfl
  rw [show (Int.tmod k 6 == 2) = false by simpa using h2, cond_false, if_neg h2]
  by_cases h3 : Int.tmod k 6 = 3
  · rw [show (Int.tmod k 6 == 3) = true by simpa using h3, cond_true, if_pos h3, nm, Option.bind_some, nm, Option.bind_some, disk_Rename hd (nmD_size _) (nmD_size _) hw]
    rfl
  rw [show (Int.tmod k 6 == 3) = false by simpa using h3, cond_false, if_neg h3]
  by_cases h4 : Int.tmod k 6 = 4
  · rw [show (Int.tmod k 6 == 4) = true by simpa using h4, cond_true, if_pos h4, nm, Option.bind_some, disk_Remove hd (nmD_size _) hw]
    rfl
  rw [show (Int.tmod k 6 == 4) = false by simpa using h4, cond_false, if_neg h4]
  by_cases h5 : Int.tmod k 6 = 5
  · rw [show (Int.tmod k 6 == 5) = true by simpa using h5, cond_true, if_pos h5, nm, Option.bind_some, wrap_i64_in (by omega) (by omega), disk_Cut hd (nmD_size _) hw]
    rfl
  rw [show (Int.tmod k 6 == 5) = false by simpa using h5, cond_false, if_neg h5, nm, Option.bind_some, disk_Append hd (nmD_size _) hw b hb]
  rfl
theorem opD_right {d : DiskQ} (h : RightD d) (x : DoQ) : RightD (opD d x).1 := by
  unfold opD
  split
  · exact syncD_right h _
  · split
    · exact renD_right h _ _
    · split
      · exact remD_right h _
      · split
        · exact cutD_right h _ _
        · exact appD_right h _ _

/-! ### What is done, whatever the fuse -/
def runP (r : Int ⊕ (List FileQ × List FileQ)) (d : DiskQ) : DiskQ × (Int × Unit) := match r with
  | .inl e => (d, (e, ()))
  | .inr p => goD (p.1, d.2) (p.2, d.2)
theorem errD_fuse {l : List FileQ} {room f g : Int} {down : Bool} (hf : -1 ≤ f) (hg : -1 ≤ g) (ns : List ByteArray) : errD (l, (room, (f, (down, ())))) ns = errD (l, (room, (g, (down, ())))) ns := by
  unfold errD rightB
  simp only [hf, hg, true_and]
def onP (e : Int) (l : List FileQ) (n : ByteArray) (k : FileQ → Int ⊕ (List FileQ × List FileQ)) : Int ⊕ (List FileQ × List FileQ) :=
  if e ≠ 0 then .inl e else match getF l n with
  | none => .inl 7
  | some f => k f
theorem onD_plan {d : DiskQ} {ns : List ByteArray} {n : ByteArray} {k : FileQ → DiskQ × (Int × Unit)} {kp : FileQ → Int ⊕ (List FileQ × List FileQ)} (h : ∀ f, k f = runP (kp f) d) : onD d ns n k = runP (onP (errD d ns) d.1 n kp) d := by
  unfold onD onP
  split
  · rfl
  · cases getF d.1 n with
    | none => rfl
    | some f => exact h f
def Fine (x : DoQ) (l : List FileQ) (r : Int ⊕ (List FileQ × List FileQ)) : Prop := match r with
  | .inl e => e ≠ 0
  | .inr p => 1 < Int.tmod x.1 6 → p.1 = l
theorem onP_fine {x : DoQ} {e : Int} {l : List FileQ} {n : ByteArray} {k : FileQ → Int ⊕ (List FileQ × List FileQ)} (h : ∀ f, Fine x l (k f)) : Fine x l (onP e l n k) := by
  unfold onP
  split
  · assumption
  · cases getF l n with
    | none =>
      show (7 : Int) ≠ 0
      decide
    | some f => exact h f
theorem opD_plan (x : DoQ) (hk : 0 ≤ x.1) (l : List FileQ) (room : Int) (down : Bool) : ∃ r, Fine x l r ∧ ∀ f, -1 ≤ f → opD (l, (room, (f, (down, ())))) x = runP r (l, (room, (f, (down, ())))) := by
  have he : ∀ f, -1 ≤ f → ∀ ns, errD (l, (room, (f, (down, ())))) ns = errD (l, (room, ((-1 : Int), (down, ())))) ns := fun f hf ns => errD_fuse hf (by omega) ns
  unfold opD
  by_cases h2 : Int.tmod x.1 6 = 2
  · simp only [if_pos h2]
    refine ⟨onP (errD (l, (room, ((-1 : Int), (down, ())))) [nmD x.2.1]) l (nmD x.2.1) fun f => .inr (l, putF l (f.1, (f.2.1, ((f.2.1.length : Int), ())))), onP_fine fun f _ => rfl, fun f hf => ?_⟩
    rw [← he f hf]
    exact onD_plan fun g => rfl
  simp only [if_neg h2]
  by_cases h3 : Int.tmod x.1 6 = 3
  · simp only [if_pos h3]
    refine ⟨onP (errD (l, (room, ((-1 : Int), (down, ())))) [nmD x.2.2.1, nmD x.2.1]) l (nmD x.2.1) fun f => .inr (l, putF (delF l (nmD x.2.1)) (nmD x.2.2.1, f.2)), onP_fine fun f _ => rfl, fun f hf => ?_⟩
    rw [← he f hf]
    exact onD_plan fun g => rfl
  simp only [if_neg h3]
  by_cases h4 : Int.tmod x.1 6 = 4
  · simp only [if_pos h4]
    refine ⟨onP (errD (l, (room, ((-1 : Int), (down, ())))) [nmD x.2.1]) l (nmD x.2.1) fun f => .inr (l, delF l (nmD x.2.1)), onP_fine fun f _ => rfl, fun f hf => ?_⟩
    rw [← he f hf]
    exact onD_plan fun g => rfl
  simp only [if_neg h4]
  by_cases h5 : Int.tmod x.1 6 = 5
  · simp only [if_pos h5]
    refine ⟨onP (errD (l, (room, ((-1 : Int), (down, ())))) [nmD x.2.1]) l (nmD x.2.1) fun f => if x.2.2.2.1 < 0 ∨ (f.2.1.length : Int) < x.2.2.2.1 then .inl 1 else .inr (l, putF l (cutF f x.2.2.2.1)), onP_fine fun f => ?_, fun f hf => ?_⟩
    · split
      · show (1 : Int) ≠ 0
        decide
      · exact fun _ => rfl
    · rw [← he f hf]
      refine onD_plan fun g => ?_
      split <;> rfl
  simp only [if_neg h5]
  have hm : ¬ (1 < Int.tmod x.1 6) := by
    have e : Int.tmod x.1 6 = x.1 % 6 := Int.tmod_eq_emod_of_nonneg hk
    rw [e] at h2 h3 h4 h5 ⊢
    omega
  refine ⟨if errD (l, (room, ((-1 : Int), (down, ())))) [nmD x.2.1] ≠ 0 then .inl (errD (l, (room, ((-1 : Int), (down, ())))) [nmD x.2.1]) else if room < usedF l + x.2.2.2.2.1.length ∨ (getF l (nmD x.2.1) = none ∧ l.length = 64) then .inl 6 else .inr (putF l (nmD x.2.1, ((fileOf l (nmD x.2.1)).2.1 ++ x.2.2.2.2.1, (fileOf l (nmD x.2.1)).2.2)), putF l (nmD x.2.1, ((fileOf l (nmD x.2.1)).2.1 ++ x.2.2.2.2.1, (fileOf l (nmD x.2.1)).2.2))), ?_, fun f hf => ?_⟩
  · split
    · assumption
    · split
      · show (6 : Int) ≠ 0
        decide
      · exact fun h => absurd h hm
  · unfold appD
    rw [he f hf]
    split
    · rfl
    · split <;> rfl
end Go.AI
