/- scan: frames in a row whose bytes are changed within four that follow one another are read up to the one in which the first changed byte stands. -/
import Derived.Test.YthmgondhniecnaaXScanD
namespace Go.AI
theorem zip_drop : ∀ (n : Nat) (a b : List Nat), (List.zipWith (· ^^^ ·) a b).drop n = List.zipWith (· ^^^ ·) (a.drop n) (b.drop n)
  | 0, _, _ => rfl
  | n + 1, [], b => by simp
  | n + 1, x :: a, [] => by simp
  | n + 1, x :: a, y :: b => by simp [zip_drop n a b]
theorem zip_take : ∀ (n : Nat) (a b : List Nat), (List.zipWith (· ^^^ ·) a b).take n = List.zipWith (· ^^^ ·) (a.take n) (b.take n)
  | 0, _, _ => by simp
  | n + 1, [], b => by simp
  | n + 1, x :: a, [] => by simp
  | n + 1, x :: a, y :: b => by simp [zip_take n a b]
/-- What is turned, byte by byte. -/
theorem turn_get {ns ys : List Nat} {p i : Nat} (hp : p + ys.length ≤ ns.length) : (turn ns p ys)[i]? = (ns[i]?).map fun n => n ^^^ (if p ≤ i then ys.getD (i - p) 0 else 0) := by
  have hl : (ns.take p).length = p := by rw [List.length_take]; omega
  have hz : (List.zipWith (· ^^^ ·) ((ns.drop p).take ys.length) ys).length = ys.length := by simp; omega
  unfold turn
  by_cases h1 : i < p
  · rw [List.append_assoc, List.getElem?_append_left (by omega), List.getElem?_take_of_lt h1, if_neg (by omega)]
    simp
  · by_cases h2 : i < p + ys.length
    · rw [List.getElem?_append_left (by rw [List.length_append, hl, hz]; omega), List.getElem?_append_right (by omega), hl, List.getElem?_zipWith, List.getElem?_take_of_lt (by omega), List.getElem?_drop, show p + (i - p) = i by omega, if_pos (by omega)]
      rw [List.getD_eq_getElem?_getD, List.getElem?_eq_getElem (l := ys) (by omega)]
      cases ns[i]? <;> rfl
    · have hpi : p ≤ i := by omega
      have hq : p + ys.length + (i - (p + ys.length)) = i := by omega
      have hn : ys[i - p]? = none := List.getElem?_eq_none (by omega)
      rw [List.getElem?_append_right (by rw [List.length_append, hl, hz]; omega), List.length_append, hl, hz, List.getElem?_drop, hq, if_pos hpi, List.getD_eq_getElem?_getD, hn]
      simp
theorem turn_ext {ns ys zs : List Nat} {p q : Nat} (hp : p + ys.length ≤ ns.length) (hq : q + zs.length ≤ ns.length) (h : ∀ i, i < ns.length → (if p ≤ i then ys.getD (i - p) 0 else 0) = (if q ≤ i then zs.getD (i - q) 0 else 0)) : turn ns p ys = turn ns q zs := by
  apply List.ext_getElem?
  intro i
  rw [turn_get hp, turn_get hq]
  by_cases hi : i < ns.length
  · rw [h i hi]
  · rw [List.getElem?_eq_none (by omega)]; rfl
/-- Zeros ahead turn nothing. -/
theorem turn_skip {ns ys : List Nat} {p k : Nat} (hp : p + ys.length ≤ ns.length) (hk : k ≤ ys.length) (h : ∀ c ∈ ys.take k, c = 0) : turn ns p ys = turn ns (p + k) (ys.drop k) := by
  refine turn_ext hp (by simp; omega) fun i hi => ?_
  by_cases h1 : p ≤ i
  · by_cases h2 : p + k ≤ i
    · rw [if_pos h1, if_pos h2, List.getD_eq_getElem?_getD, List.getD_eq_getElem?_getD, List.getElem?_drop, show k + (i - (p + k)) = i - p by omega]
    · rw [if_pos h1, if_neg h2, List.getD_eq_getElem?_getD, List.getElem?_eq_getElem (l := ys) (by omega)]
      refine h _ ?_
      rw [List.mem_take_iff_getElem]
      exact ⟨i - p, by omega, rfl⟩
  · rw [if_neg h1, if_neg (by omega)]
/-- The bytes ahead of what is turned are as they were. -/
theorem turn_take {ns ys : List Nat} {p k : Nat} (hp : p + ys.length ≤ ns.length) (hk : k ≤ p) : (turn ns p ys).take k = ns.take k := by
  apply List.ext_getElem?
  intro i
  by_cases hi : i < k
  · rw [List.getElem?_take_of_lt hi, List.getElem?_take_of_lt hi, turn_get hp, if_neg (by omega)]
    simp
  · rw [List.getElem?_eq_none (by rw [List.length_take]; omega), List.getElem?_eq_none (by rw [List.length_take]; omega)]
/-- Some bytes of what is turned. -/
theorem turn_part {ns ys : List Nat} {p a n : Nat} (hp : p + ys.length ≤ ns.length) (ha : a ≤ p) (hn : p - a ≤ n) (hl : a + n ≤ ns.length) : ((turn ns p ys).drop a).take n = turn ((ns.drop a).take n) (p - a) (ys.take (n - (p - a))) := by
  apply List.ext_getElem?
  intro i
  have hz : (p - a) + (ys.take (n - (p - a))).length ≤ ((ns.drop a).take n).length := by
    simp only [List.length_take, List.length_drop]
    omega
  rw [turn_get hz]
  by_cases hi : i < n
  · rw [List.getElem?_take_of_lt hi, List.getElem?_take_of_lt hi, List.getElem?_drop, List.getElem?_drop, turn_get hp]
    congr 2
    funext x
    congr 1
    by_cases h1 : p ≤ a + i
    · rw [if_pos h1, if_pos (by omega), List.getD_eq_getElem?_getD, List.getD_eq_getElem?_getD, List.getElem?_take_of_lt (by omega), show a + i - p = i - (p - a) by omega]
    · rw [if_neg h1, if_neg (by omega)]
  · rw [List.getElem?_eq_none (by rw [List.length_take]; omega), List.getElem?_eq_none (by rw [List.length_take]; omega)]
    rfl
/-- Bytes of which one at a place is turned are read up to there. -/
theorem scanL_turn {l : List FrmR} {lsn ep : Int} (hr : rowB l lsn ep = true) (hF : ∀ f ∈ l, FrmIn f) {p : Nat} {ys : List Nat} (hy : byt ys) (h4 : ys.length ≤ 4) (hp : p + ys.length ≤ 72 * l.length) (h0 : ∃ c cs, ys = c :: cs ∧ c ≠ 0) : scanL (turn (putL l) p ys) lsn ep = l.take (p / 72) := by
  have hlen := putL_length l
  have hbl := putL_byt l
  obtain ⟨c, cs, rfl, hc⟩ := h0
  have hj : p / 72 < l.length := by simp at hp; omega
  have hjl : 72 * (p / 72) ≤ p := by omega
  -- the frames ahead; the frame in which the byte stands
  have e1 : (turn (putL l) p (c :: cs)).take (72 * (p / 72)) = putL (l.take (p / 72)) := by
    rw [turn_take (by rw [hlen]; exact hp) hjl]
    conv => lhs; rw [← List.take_append_drop (p / 72) l, putL_append]
    rw [List.take_left' (by rw [putL_length, List.length_take]; congr 1; omega)]
  have e2 : ((putL l).drop (72 * (p / 72))).take 72 = codeF l[p / 72] := by
    conv => lhs; rw [← List.take_append_drop (p / 72) l, putL_append]
    rw [List.drop_left' (by rw [putL_length, List.length_take]; congr 1; omega), drop_at hj, putL_cons, List.take_left' (codeF_length _)]
  have e3 : turn (putL l) p (c :: cs) = putL (l.take (p / 72)) ++ (turn (putL l) p (c :: cs)).drop (72 * (p / 72)) := by
    conv => lhs; rw [← List.take_append_drop (72 * (p / 72)) (turn (putL l) p (c :: cs)), e1]
  rw [e3, scanL_put _ _ _ _ (rowB_take l lsn ep _ hr) fun f hf => hF f (List.mem_of_mem_take hf)]
  rw [scanL_stop, List.append_nil]
  intro h
  have hpart := turn_part (ns := putL l) (ys := c :: cs) (p := p) (a := 72 * (p / 72)) (n := 72) (by rw [hlen]; exact hp) hjl (by omega) (by rw [hlen]; omega)
  rw [hpart, e2] at h
  have hfr := rowB_all hr _ (List.getElem_mem hj)
  have hfi := hF _ (List.getElem_mem hj)
  have hlt : ((c :: cs).take (72 - (p - 72 * (p / 72)))).length ≤ 4 := Nat.le_trans (by rw [List.length_take]; omega) h4
  have := (dec_turn hfr hfi (p := p - 72 * (p / 72)) (ys := (c :: cs).take (72 - (p - 72 * (p / 72)))) (byt_take _ hy) hlt (by rw [List.length_take]; omega)).1 h.1
  refine hc (this c ?_)
  rw [show 72 - (p - 72 * (p / 72)) = (72 - (p - 72 * (p / 72)) - 1) + 1 by omega, List.take_succ_cons]
  exact List.mem_cons_self ..
/-- Where the first turned byte stands. -/
theorem scanL_turned {l : List FrmR} {lsn ep : Int} (hr : rowB l lsn ep = true) (hF : ∀ f ∈ l, FrmIn f) {p first : Nat} {ys : List Nat} (hy : byt ys) (h4 : ys.length ≤ 4) (hp : p + ys.length ≤ 72 * l.length) (hz : ∀ c ∈ ys.take (first - p), c = 0) (hf : (first = 72 * l.length ∧ ∀ c ∈ ys, c = 0) ∨ (p ≤ first ∧ ∃ c cs, ys.drop (first - p) = c :: cs ∧ c ≠ 0)) : scanL (turn (putL l) p ys) lsn ep = l.take (first / 72) := by
  rcases hf with ⟨h1, h2⟩ | ⟨h1, c, cs, h2, h3⟩
  · rw [turn_zero (by rw [putL_length]; exact hp) h2]
    have h0 : scanL [] (nxt l lsn ep).1 (nxt l lsn ep).2 = [] := scanL_short (by simp)
    have := scanL_put l [] lsn ep hr hF
    rw [h0, List.append_nil, List.append_nil] at this
    rw [this, List.take_of_length_le (by omega)]
  · have hk : first - p ≤ ys.length := by
      have := congrArg List.length h2
      rw [List.length_drop, List.length_cons] at this
      omega
    rw [turn_skip (by rw [putL_length]; exact hp) hk hz, show p + (first - p) = first by omega]
    exact scanL_turn hr hF (fun x hx => hy x (List.mem_of_mem_drop hx)) (by simp; omega) (by simp; omega) ⟨c, cs, h2, h3⟩
end Go.AI
