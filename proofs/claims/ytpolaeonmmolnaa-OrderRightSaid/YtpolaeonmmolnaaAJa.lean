/- What a law is handed, as data. -/
import Derived.Test.YtpolaeonmmolnaaAIz
import Derived.ChangeOld
import Derived.Carry
import Derived.OpenShut
namespace Go.AI
set_option linter.unusedVariables false
set_option linter.unusedSimpArgs false

/-- The shape of a value's cells. -/
inductive Sh where
  | bool
  | int (k : IntKind)
  | str
  | ptr (s : Sh)
  | slice (n : Nat) (s : Sh)
  | nil
  | cons (a b : Sh)

def Sh.size : Sh → Nat
  | .nil => 0
  | .cons a b => a.size + b.size
  | _ => 1

def HasSh : Sh → List DV → Prop
  | .bool, ds => ∃ b, ds = [.bool b]
  | .int k, ds => ∃ n, ds = [.int k n] ∧ (Lit.int k n).wf = true
  | .str, ds => ∃ s, ds = [.str s] ∧ s.size ≤ maxLen
  | .ptr s, ds => ds = [.nilp] ∨ ∃ cs, ds = [.pt cs] ∧ cs.length = s.size ∧ HasSh s cs
  | .slice n s, ds => ∃ l, ds = [.sl n l] ∧ l.length ≤ maxLen ∧ ∀ e ∈ l, e.length = n ∧ HasSh s e
  | .nil, ds => ds = []
  | .cons a b, ds => ∃ x y, ds = x ++ y ∧ x.length = a.size ∧ HasSh a x ∧ HasSh b y

def repSh (a : Sh) : Nat → Sh
  | 0 => .nil
  | n + 1 => .cons a (repSh a n)

def fieldSh (P : Program) (g : TypeId → Option Sh) : Nat → List Field → Option Sh
  | _, [] => some .nil
  | o, f :: fs => match g f.type, fieldSh P g (o + P.cellsOf f.type) fs with
    | some s, some r => if f.offset = o ∧ s.size = P.cellsOf f.type then some (.cons s r) else none
    | _, _ => none

def shape (P : Program) : Nat → TypeId → Option Sh
  | 0, _ => none
  | k + 1, t => match P.underlying t with
    | some .bool => some .bool
    | some (.int q) => some (.int q)
    | some .string => some .str
    | some (.pointer e) => match shape P k e with
      | some s => if s.size = P.cellsOf e ∧ 0 < P.cellsOf e then some (.ptr s) else none
      | none => none
    | some (.slice e) => match shape P k e with
      | some s => if s.size = P.cellsOf e ∧ 0 < P.cellsOf e then some (.slice (P.cellsOf e) s) else none
      | none => none
    | some (.struct fs) => match fieldSh P (shape P k) 0 fs.toList with
      | some s => if s.size = P.cellsOf t then some s else none
      | none => none
    | some (.array n e) => match shape P k e with
      | some s => if s.size = P.cellsOf e ∧ n * P.cellsOf e = P.cellsOf t then some (repSh s n) else none
      | none => none
    | _ => none

theorem HasSh.single : ∀ {s : Sh} {ds : List DV}, HasSh s ds → ∀ d ∈ ds, DV.single d = true
  | .bool, ds, ⟨b, h⟩ => by subst h; simp [DV.single]
  | .int k, ds, ⟨n, h, _⟩ => by subst h; simp [DV.single]
  | .str, ds, ⟨n, h, _⟩ => by subst h; simp [DV.single]
  | .ptr s, ds, h => by rcases h with h | ⟨cs, h, _⟩ <;> subst h <;> simp [DV.single]
  | .slice n s, ds, ⟨l, h, _⟩ => by subst h; simp [DV.single]
  | .nil, ds, h => by cases h; simp
  | .cons a b, ds, ⟨x, y, h, _, hx, hy⟩ => by
    subst h
    intro d hd
    rcases List.mem_append.1 hd with hd | hd
    · exact hx.single d hd
    · exact hy.single d hd

section
variable {H : Type} {enc : TypeId × Value → H} {P : Program} {W : World} {spare : Nat → Bool} {held : Bool}

/-- The blocks of a world. -/
def Old (w : World) : Nat → Prop := fun g => g < w.heap.size

theorem cells_get {a : Addr} {n : Nat} {cs : List Value} (h : W.cells? 0 a n = some cs) : cs.length = n ∧ ∀ (j : Nat) v, cs[j]? = some v → W.cell? (a.add j) = some v := by
  unfold World.cells? at h
  rw [if_pos (Nat.zero_le _)] at h
  have hl := mapM_some_length h
  rw [List.length_range] at hl
  refine ⟨hl, fun j v hv => ?_⟩
  have hj : j < n := by rw [← hl]; exact (List.getElem?_eq_some_iff.1 hv).1
  rw [mapM_some_get h j j (by simp [hj]), hv]

theorem trod_array {n : Nat} {e t : TypeId} {fuel : Nat} {cs : List Value} {x : DataW H × List MemPlace} (ht : P.underlying t = some (.array n e)) (h : DataW.trod enc P W 0 spare held fuel t cs = some x) :
    ∃ m, fuel = m + 1 ∧ cs.length = P.cellsOf t ∧ ∀ i, i < n → ∃ y, DataW.trod enc P W 0 spare held m e ((cs.drop (i * P.cellsOf e)).take (P.cellsOf e)) = some y := by
  cases fuel with
  | zero => simp [DataW.trod] at h
  | succ m =>
    unfold DataW.trod at h
    rw [ht] at h
    split at h <;> simp_all
    obtain ⟨hl, xs, hp, hd⟩ := h
    intro i hi
    have h1 := mapM_some_get hp i i (by simp [hi])
    have h2 := mapM_some_length hp
    rw [h1]
    exact ⟨_, _, List.getElem?_eq_getElem (by rw [h2]; simpa using hi)⟩

theorem cell_block {w : World} {a : Addr} {v : Value} (h : w.cell? a = some v) : a.spot = none ∧ a.block < w.heap.size := by
  unfold World.cell? at h
  split at h
  · rename_i hb
    split at h
    · cases h
    · rename_i hs
      refine ⟨by cases hq : a.spot <;> simp_all, ?_⟩
      rcases Nat.lt_or_ge a.block w.heap.size with h1 | h1
      · exact h1
      · rw [Array.getElem?_eq_none h1] at hb; cases hb
  · cases h

theorem RepL.append {F : Nat → Prop} {w : World} {a b : List DV} {u v : List Value} (h : RepL F w a u) (h' : RepL F w b v) : RepL F w (a ++ b) (u ++ v) := by
  refine ⟨by simp [h.1, h'.1], fun j d x h1 h2 => ?_⟩
  by_cases hj : j < a.length
  · rw [List.getElem?_append_left hj] at h1
    rw [List.getElem?_append_left (by rw [h.1]; exact hj)] at h2
    exact h.2 j d x h1 h2
  · rw [List.getElem?_append_right (by omega)] at h1
    rw [List.getElem?_append_right (by rw [h.1]; omega), h.1] at h2
    exact h'.2 _ d x h1 h2

theorem RepL.one {F : Nat → Prop} {w : World} {d : DV} {v : Value} (h : Rep F w d v) : RepL F w [d] [v] := ⟨rfl, fun j x y h1 h2 => by
  have : j = 0 := by have := (List.getElem?_eq_some_iff.1 h1).1; simpa using this
  subst this
  simp at h1 h2
  subst h1; subst h2; exact h⟩

/-- **What a law is handed.** -/
theorem open_cells : ∀ (k fuel : Nat) (t : TypeId) (cs : List Value) (x : DataW H × List MemPlace) (s : Sh), DataW.trod enc P W 0 spare held fuel t cs = some x → shape P k t = some s → ∃ ds, RepL (Old W) W ds cs ∧ ds.length = s.size ∧ HasSh s ds
  | 0, _, _, _, _, _, _, hs => by cases hs
  | k + 1, fuel, t, cs, x, s, h, hs => by
    have ih := open_cells k
    unfold shape at hs
    split at hs
    · rename_i ht
      cases hs
      obtain ⟨b, rfl, _⟩ := DataW.trod_bool ht h
      exact ⟨[.bool b], .one (.bool b), rfl, b, rfl⟩
    · rename_i q ht
      cases hs
      obtain ⟨n, rfl, _, hw⟩ := DataW.trod_int ht h
      exact ⟨[.int q n], .one (.int q n), rfl, n, rfl, hw⟩
    · rename_i ht
      cases hs
      obtain ⟨b, rfl, _, hw⟩ := DataW.trod_string ht h
      exact ⟨[.str b], .one (.str b), rfl, b, rfl, hw⟩
    · rename_i e ht
      split at hs
      · rename_i s' hs'
        split at hs
        · rename_i hsz
          cases hs
          rcases DataW.trod_pointer ht h with ⟨rfl, _⟩ | ⟨a, cs', y, n, _, rfl, _, hc, htr⟩
          · exact ⟨[.nilp], .one .nilp, rfl, .inl rfl⟩
          · obtain ⟨ds, h1, h2, h3⟩ := ih n e cs' y s' htr hs'
            obtain ⟨hl, hget⟩ := cells_get hc
            have h0 : W.cell? a = some cs'[0] := by
              have := hget 0 cs'[0] (List.getElem?_eq_getElem (by omega))
              simpa [Addr.add] using this
            obtain ⟨hspot, hblk⟩ := cell_block h0
            obtain ⟨b, o, sp⟩ := a
            cases hspot
            refine ⟨[.pt ds], .one (.pt ds b o (fun j => cs'.getD j undef) hblk ?_ ?_), rfl, .inr ⟨ds, rfl, h2, h3⟩⟩
            · intro j d hd
              have hj : j < cs'.length := by rw [h1.1]; exact (List.getElem?_eq_some_iff.1 hd).1
              have := hget j cs'[j] (List.getElem?_eq_getElem hj)
              rw [Addr.add_mid] at this
              rw [this]
              simp [hj]
            · intro j d hd
              have hj : j < cs'.length := by rw [h1.1]; exact (List.getElem?_eq_some_iff.1 hd).1
              exact h1.2 j d _ hd (by simp [hj])
        · cases hs
      · cases hs
    · rename_i e ht
      split at hs
      · rename_i s' hs'
        split at hs
        · rename_i hsz
          cases hs
          rcases DataW.trod_slice ht h with ⟨rfl, _⟩ | ⟨a, len, cap, elems, rest, n, _, rfl, _, _, hlc, hcm, hel, helem, _, _⟩
          · exact ⟨[.sl (P.cellsOf e) []], .one (.sl0 _ _ _), rfl, [], rfl, Nat.zero_le _, by simp⟩
          · have each : ∀ i, ∃ p : List DV × List Value, i < len → RepL (Old W) W p.1 p.2 ∧ p.1.length = P.cellsOf e ∧ HasSh s' p.1 ∧ ∀ (j : Nat) v, p.2[j]? = some v → W.cell? ((a.add (i * P.cellsOf e)).add j) = some v := by
              intro i
              by_cases hi : i < len
              · have h1 := helem i hi
                rw [List.getElem?_eq_getElem (by omega)] at h1
                simp only [Option.bind_eq_some_iff] at h1
                obtain ⟨cs', hc, htr⟩ := h1
                obtain ⟨ds, h1, h2, h3⟩ := ih n e cs' _ s' htr hs'
                exact ⟨(ds, cs'), fun _ => ⟨h1, h2.trans hsz.1, h3, (cells_get hc).2⟩⟩
              · exact ⟨([], []), fun h => absurd h hi⟩
            obtain ⟨f, hf⟩ := Classical.axiomOfChoice each
            by_cases h0 : len = 0
            · subst h0
              exact ⟨[.sl (P.cellsOf e) []], .one (.sl0 _ _ _), rfl, [], rfl, Nat.zero_le _, by simp⟩
            · have hfirst := hf 0 (by omega)
              have hpos : 0 < (f 0).2.length := by rw [hfirst.1.1, hfirst.2.1]; exact hsz.2
              have hcell := hfirst.2.2.2 0 (f 0).2[0] (List.getElem?_eq_getElem hpos)
              simp only [Nat.zero_mul, Addr.add, if_pos rfl] at hcell
              obtain ⟨hspot, hblk⟩ := cell_block hcell
              obtain ⟨b, o, sp⟩ := a
              cases hspot
              have hget : ∀ i x, ((List.range len).map fun i => (f i).1)[i]? = some x → i < len ∧ x = (f i).1 := by
                intro i x hx
                rw [List.getElem?_map, Option.map_eq_some_iff] at hx
                obtain ⟨y, hy, rfl⟩ := hx
                have hi : i < len := by have := (List.getElem?_eq_some_iff.1 hy).1; simpa using this
                rw [List.getElem?_range hi] at hy
                cases hy
                exact ⟨hi, rfl⟩
              have hlen : ((List.range len).map fun i => (f i).1).length = len := by simp
              have hmem : ∀ x ∈ (List.range len).map fun i => (f i).1, x.length = P.cellsOf e ∧ HasSh s' x := by
                intro x hx
                obtain ⟨i, hxi⟩ := List.getElem?_of_mem hx
                obtain ⟨hil, rfl⟩ := hget i x hxi
                exact ⟨(hf i hil).2.1, (hf i hil).2.2.1⟩
              refine ⟨[.sl (P.cellsOf e) ((List.range len).map fun i => (f i).1)], .one ?_, rfl, _, rfl, by rw [hlen]; omega, hmem⟩
              have hr := Rep.sl (F := Old W) (w := W) (P.cellsOf e) ((List.range len).map fun i => (f i).1) b o cap (fun i j => (f i).2.getD j undef) (fun x hx => (hmem x hx).1) (by rw [hlen]; omega)
                (fun x hx d hd => (hmem x hx).2.single d hd) hblk ?_ ?_
              · rwa [hlen] at hr
              · intro i j x d hx hd
                obtain ⟨hi, rfl⟩ := hget i x hx
                have hj : j < (f i).2.length := by rw [(hf i hi).1.1]; exact (List.getElem?_eq_some_iff.1 hd).1
                have := (hf i hi).2.2.2 j (f i).2[j] (List.getElem?_eq_getElem hj)
                rw [Addr.add_mid, Addr.add_mid] at this
                simp only [List.getD_eq_getElem?_getD, List.getElem?_eq_getElem hj, Option.getD_some]
                rw [← this, Nat.add_assoc]
              · intro i j x d hx hd
                obtain ⟨hi, rfl⟩ := hget i x hx
                have hj : j < (f i).2.length := by rw [(hf i hi).1.1]; exact (List.getElem?_eq_some_iff.1 hd).1
                refine (hf i hi).1.2 j d _ hd ?_
                simp [hj]
        · cases hs
      · cases hs
    · rename_i fs ht
      split at hs
      · rename_i s' hs'
        split at hs
        · rename_i hsz
          cases hs
          obtain ⟨xs, n, _, _, hcl, hxl, hfs⟩ := DataW.trod_struct ht h
          have key : ∀ (fl : List Field) (i o : Nat) (s : Sh), fieldSh P (shape P k) o fl = some s → (∀ j f, fl[j]? = some f → fs[i + j]? = some f) → o + s.size = cs.length → ∃ ds, RepL (Old W) W ds (cs.drop o) ∧ ds.length = s.size ∧ HasSh s ds := by
            intro fl
            induction fl with
            | nil =>
              intro i o s h1 _ ho
              cases h1
              refine ⟨[], ⟨by simp [Sh.size] at ho ⊢; omega, by simp⟩, rfl, rfl⟩
            | cons f fl ihf =>
              intro i o s h1 h2 ho
              simp only [fieldSh] at h1
              split at h1
              · rename_i s1 r hs1 hr
                split at h1
                · rename_i hc
                  cases h1
                  have hf := hfs i f (by simpa using h2 0 f rfl)
                  have hi : i < xs.length := by
                    have := (Array.getElem?_eq_some_iff.1 (h2 0 f rfl)).1
                    rw [hxl]; simpa using this
                  rw [List.getElem?_eq_getElem hi, hc.1] at hf
                  obtain ⟨d1, q1, q2, q3⟩ := ih n f.type _ _ s1 hf hs1
                  obtain ⟨d2, q4, q5, q6⟩ := ihf (i + 1) (o + P.cellsOf f.type) r hr (fun j g hg => by
                    have := h2 (j + 1) g (by simpa using hg)
                    rwa [show i + (j + 1) = i + 1 + j by omega] at this) (by simp only [Sh.size] at ho; omega)
                  refine ⟨d1 ++ d2, ?_, by simp [Sh.size, q2, q5], d1, d2, rfl, q2, q3, q6⟩
                  have e : cs.drop o = (cs.drop o).take (P.cellsOf f.type) ++ cs.drop (o + P.cellsOf f.type) := by
                    rw [← List.drop_drop, List.take_append_drop]
                  rw [e]
                  exact q1.append q4
                · cases h1
              · cases h1
          obtain ⟨ds, h1, h2, h3⟩ := key fs.toList 0 0 _ hs' (fun j f hf => by simpa using hf) (by rw [hcl]; omega)
          exact ⟨ds, by simpa using h1, h2, h3⟩
        · cases hs
      · cases hs
    · rename_i n e ht
      split at hs
      · rename_i s' hs'
        split at hs
        · rename_i hsz
          cases hs
          obtain ⟨m, _, hcl, hel⟩ := trod_array ht h
          have key : ∀ (r i : Nat), i + r = n → ∃ ds, RepL (Old W) W ds (cs.drop (i * P.cellsOf e)) ∧ ds.length = (repSh s' r).size ∧ HasSh (repSh s' r) ds := by
            intro r
            induction r with
            | zero =>
              intro i hi
              refine ⟨[], ⟨?_, by simp⟩, rfl, rfl⟩
              have : i = n := by omega
              subst this
              simp [hcl, hsz.2]
            | succ r ihr =>
              intro i hi
              obtain ⟨y, hy⟩ := hel i (by omega)
              obtain ⟨d1, q1, q2, q3⟩ := ih m e _ _ s' hy hs'
              obtain ⟨d2, q4, q5, q6⟩ := ihr (i + 1) (by omega)
              refine ⟨d1 ++ d2, ?_, by simp [repSh, Sh.size, q2, q5], d1, d2, rfl, q2, q3, q6⟩
              have e1 : cs.drop (i * P.cellsOf e) = (cs.drop (i * P.cellsOf e)).take (P.cellsOf e) ++ cs.drop ((i + 1) * P.cellsOf e) := by
                rw [Nat.succ_mul, ← List.drop_drop, List.take_append_drop]
              rw [e1]
              exact q1.append q4
          obtain ⟨ds, h1, h2, h3⟩ := key n 0 (by omega)
          exact ⟨ds, by simpa using h1, h2, h3⟩
        · cases hs
      · cases hs
    · cases hs

end
end Go.AI
