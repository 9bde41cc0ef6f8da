/- slot: what a write leaves, whenever the power goes; what is read then. -/
import Derived.Test.YtbcffodjbbcdhaaXSlotC
namespace Go.AI
open IntKind

def AllS (l : List FileQ) : Prop := ∀ f ∈ l, f.2.2.1 = f.2.1.length
structure MidW (d : DiskQ) (n : ByteArray) (x : DiskQ) : Prop where
  right : RightD x
  up : x.2.2.2.1 = false
  room : x.2.1 = d.2.1
  other : ∀ m, m ≠ n → getF x.1 m = getF d.1 m
  free : d.2.2.1 = -1 → x.2.2.1 = -1
def FullW (d : DiskQ) (n : ByteArray) (b : List Int) : Prop := d.2.1 + (datF d.1 n).length < usedF d.1 + b.length ∨ (getF d.1 n = none ∧ d.1.length = 64)
structure OutW (d : DiskQ) (n : ByteArray) (b : List Int) (r : DiskQ × (Int × Unit)) : Prop where
  right : RightD r.1
  room : r.1.2.1 = d.2.1
  other : ∀ m, m ≠ n → getF r.1.1 m = getF d.1 m
  res : (r.2.1 = 0 ∧ getF r.1.1 n = some (n, (b, ((b.length : Int), ())))) ∨ (r.2.1 = 9 ∧ d.2.2.1 ≠ -1 ∧ (getF r.1.1 n = getF d.1 n ∨ getF r.1.1 n = some (n, (b, (0, ()))))) ∨
    (r.2.1 = 6 ∧ FullW d n b ∧ (getF r.1.1 n = getF d.1 n ∨ getF r.1.1 n = some (n, ([], (0, ())))))

theorem goD_lost {a b : DiskQ} (h : a.2.2.1 = 0) : goD a b = (downD a, (9, ())) := by unfold goD; rw [if_pos h]
theorem goD_ok {a b : DiskQ} (h : a.2.2.1 ≠ 0) : goD a b = (burnD b, (0, ())) := by unfold goD; rw [if_neg h]
theorem MidW.self {d : DiskQ} (h : RightD d) (hu : d.2.2.2.1 = false) (n : ByteArray) : MidW d n d := ⟨h, hu, rfl, fun _ _ => rfl, fun h => h⟩
theorem MidW.next {d x : DiskQ} {n : ByteArray} (h : MidW d n x) {f : FileQ} (hf : f.1 = n) (hr : RightD (putF x.1 f, x.2)) (h0 : x.2.2.1 ≠ 0) : MidW d n (burnD (putF x.1 f, x.2)) where
  right := hr.burn h0
  up := h.up
  room := h.room
  other := fun m hm => by
    show getF (putF x.1 f) m = _
    rw [getF_putF h.right.srt, if_neg (by rw [hf]; exact fun e => hm e.symm)]
    exact h.other m hm
  free := fun hd => by
    have := h.free hd
    show (if x.2.2.1 = -1 then -1 else x.2.2.1 - 1) = -1
    rw [if_pos this]
theorem putF_self {l : List FileQ} (hs : Srt l) {f : FileQ} {n : ByteArray} (hf : f.1 = n) : getF (putF l f) n = some f := by
  rw [getF_putF hs, if_pos hf]

theorem sync_out {d x : DiskQ} {n : ByteArray} {b : List Int} (hn : nameB n = true) (h : MidW d n x) (hg : getF x.1 n = some (n, (b, (0, ())))) : OutW d n b (syncD x n) := by
  unfold syncD onD
  rw [if_neg (by rw [errD_ok h.right h.up (by simpa using hn)]; decide), hg]
  simp only
  have hp := h.right.same hg (f := (n, (b, ((b.length : Int), ())))) rfl ⟨by simp, by simp⟩ (Nat.le_refl _)
  by_cases h0 : x.2.2.1 = 0
  · rw [goD_lost h0]
    exact ⟨h.right.down, h.room, h.other, .inr (.inl ⟨rfl, fun e => by have := h.free e; omega, .inr hg⟩)⟩
  · rw [goD_ok h0]
    have m := h.next (f := (n, (b, ((b.length : Int), ())))) rfl hp h0
    exact ⟨m.right, m.room, m.other, .inl ⟨rfl, putF_self h.right.srt rfl⟩⟩
theorem app_out {d x : DiskQ} {n : ByteArray} {b : List Int} (hn : nameB n = true) (h : MidW d n x) (hg : getF x.1 n = none ∧ getF d.1 n = none ∨ getF x.1 n = some (n, ([], (0, ()))))
    (hfull : x.2.1 < usedF x.1 + b.length ∨ (getF x.1 n = none ∧ x.1.length = 64) → FullW d n b) :
    OutW d n b (bif (appD x n b).2.1 != 0 then appD x n b else syncD (appD x n b).1 n) := by
  have hfo : fileOf x.1 n = (n, ([], (0, ()))) := by
    unfold fileOf
    rcases hg with ⟨hg, _⟩ | hg <;> rw [hg] <;> rfl
  have hgd : getF x.1 n = getF d.1 n ∨ getF x.1 n = some (n, ([], (0, ()))) := by
    rcases hg with ⟨h1, h2⟩ | h1
    · exact .inl (h1.trans h2.symm)
    · exact .inr h1
  have e : errD x [n] = 0 := errD_ok h.right h.up (by simpa using hn)
  have ha : appD x n b = (if x.2.1 < usedF x.1 + b.length ∨ (getF x.1 n = none ∧ x.1.length = 64) then (x, (6, ())) else goD (putF x.1 (n, (b, (0, ()))), x.2) (putF x.1 (n, (b, (0, ()))), x.2)) := by
    unfold appD
    rw [if_neg (by omega), hfo]
    rfl
  rw [ha]
  by_cases hc : x.2.1 < usedF x.1 + b.length ∨ (getF x.1 n = none ∧ x.1.length = 64)
  · rw [if_pos hc]
    exact ⟨h.right, h.room, h.other, .inr (.inr ⟨rfl, hfull hc, hgd⟩)⟩
  · rw [if_neg hc]
    have hr := h.right.app (b := b) hn hc
    rw [hfo] at hr
    have hr : RightD (putF x.1 (n, (b, (0, ()))), x.2) := hr
    by_cases h0 : x.2.2.1 = 0
    · rw [goD_lost (a := (putF x.1 (n, (b, (0, ()))), x.2)) h0]
      refine ⟨hr.down, h.room, fun m hm => ?_, .inr (.inl ⟨rfl, fun e => by have := h.free e; omega, .inr (putF_self h.right.srt rfl)⟩)⟩
      show getF (putF x.1 (n, (b, (0, ())))) m = _
      rw [getF_putF h.right.srt, if_neg (fun e => hm e.symm)]
      exact h.other m hm
    · rw [goD_ok (a := (putF x.1 (n, (b, (0, ()))), x.2)) h0]
      have m := h.next (f := (n, (b, (0, ())))) rfl hr h0
      exact sync_out hn m (putF_self h.right.srt rfl)
theorem wrS_out {d : DiskQ} (h : RightD d) (hu : d.2.2.2.1 = false) (ha : AllS d.1) {n : ByteArray} (hn : nameB n = true) (b : List Int) : OutW d n b (wrS d n b) := by
  unfold wrS cut0
  cases hg : getF d.1 n with
  | none =>
    simp only [Option.isSome_none, cond_false]
    rw [show ((0 : Int) != 0) = false from rfl, cond_false]
    refine app_out hn (.self h hu n) (.inl ⟨hg, hg⟩) (fun hc => ?_)
    refine hc.imp (fun hc => ?_) (fun hc => hc)
    unfold datF
    rw [hg]
    simpa using hc
  | some f =>
    have hfn := getF_name hg
    have hfm := getF_mem hg
    have hfa := ha f hfm
    simp only [Option.isSome_some, cond_true]
    have hcf : cutF f 0 = (n, ([], (0, ()))) := by
      unfold cutF
      rw [hfn, hfa]
      simp only [Int.toNat_zero, List.take_zero, Prod.mk.injEq, true_and, and_true]
      split <;> omega
    have hcut : cutD d n 0 = goD d (putF d.1 (n, ([], (0, ()))), d.2) := by
      unfold cutD onD
      rw [if_neg (by rw [errD_ok h hu (by simpa using hn)]; decide), hg]
      simp only
      rw [if_neg (by omega), hcf]
    rw [hcut]
    have hr : RightD (putF d.1 (n, ([], (0, ()))), d.2) := h.same hg (f := (n, ([], (0, ())))) rfl ⟨by simp, by simp⟩ (by simp)
    by_cases h0 : d.2.2.1 = 0
    · rw [goD_lost h0, show ((9 : Int) != 0) = true from rfl, cond_true]
      exact ⟨h.down, rfl, fun _ _ => rfl, .inr (.inl ⟨rfl, by omega, .inl rfl⟩)⟩
    · rw [goD_ok h0, show ((0 : Int) != 0) = false from rfl, cond_false]
      have m := (MidW.self h hu n).next (f := (n, ([], (0, ())))) rfl hr h0
      refine app_out hn m (.inr (putF_self h.srt rfl)) (fun hc => ?_)
      have hps : getF (burnD (putF d.1 (n, ([], (0, ()))), d.2)).1 n = some (n, ([], (0, ()))) := putF_self h.srt rfl
      rcases hc with hc | ⟨hc, _⟩
      · left
        have hu2 := usedF_putF_old (f := (n, (([] : List Int), ((0 : Int), ())))) h.srt hg
        have hc : d.2.1 < usedF (putF d.1 (n, ([], (0, ())))) + b.length := hc
        unfold datF
        rw [hg]
        simp only [List.length_nil] at hu2 ⊢
        omega
      · rw [hps] at hc; cases hc

/-! ### The power comes again -/
theorem leftF_all {f : FileQ} (h : f.2.2.1 = f.2.1.length) (k : Int) : leftF f k = f := by
  have e : keepI f k = f.2.2.1 := by unfold keepI; omega
  unfold leftF
  rw [e, h, Int.toNat_natCast, List.take_length]
  obtain ⟨a, b, c, u⟩ := f
  simp only at h
  rw [h]
theorem backL_all {keep : List Int} : ∀ {l : List FileQ} {i : Nat}, (∀ f ∈ l, 0 ≤ f.2.2.1 ∧ f.2.2.1 ≤ f.2.1.length) → AllS (backL keep i l)
  | [], _, _ => fun f hf => by cases hf
  | f :: l, i, h => fun g hg => by
    simp only [backL] at hg
    rcases List.mem_cons.1 hg with rfl | hg
    · have hf := h f List.mem_cons_self
      rw [leftF_len _ hf.1 hf.2]
      rfl
    · exact backL_all (fun f hf => h f (List.mem_cons_of_mem _ hf)) g hg
theorem backL_byt {keep : List Int} {l : List FileQ} {i : Nat} (h : BytD l) : BytD (backL keep i l) := fun g hg => by
  obtain ⟨f, hf, k, rfl⟩ := backL_mem hg
  exact (h f hf).take _
theorem backL_getF {keep : List Int} (n : ByteArray) : ∀ {l : List FileQ} {i : Nat}, ∃ k, getF (backL keep i l) n = (getF l n).map fun f => leftF f k
  | [], _ => ⟨0, rfl⟩
  | f :: l, i => by
    simp only [backL, getF]
    rw [show (leftF f (keepAt keep i)).1 = f.1 from rfl]
    by_cases h : f.1 = n
    · rw [if_pos h, if_pos h]; exact ⟨_, rfl⟩
    · rw [if_neg h, if_neg h]; exact backL_getF n

/-! ### What is read then -/
theorem tmod2 {g : Int} (h : 0 ≤ g) : Int.tmod g 2 = g % 2 := Int.tmod_eq_emod_of_nonneg h
theorem nmS_even {g : Int} (h : 0 ≤ g) (e : g % 2 = 0) : nmS g = sn0 := by
  unfold nmS
  rw [tmod2 h, e]
  rfl
theorem nmS_odd {g : Int} (h : 0 ≤ g) (e : g % 2 = 1) : nmS g = sn1 := by
  unfold nmS
  rw [tmod2 h, e]
  rfl
theorem updS_eq (b : SltQ) (r : SltQ × (Int × Unit)) (p : Int) : (updS b r p = b ∧ (r.2.1 = 0 → Int.tmod r.1.1 2 = p → r.1.1 ≤ b.1)) ∨ (updS b r p = r.1 ∧ r.2.1 = 0 ∧ Int.tmod r.1.1 2 = p ∧ b.1 < r.1.1) := by
  unfold updS
  cases h : ((r.2.1 == 0) && (Int.tmod r.1.1 2 == p)) && (decide (r.1.1 > b.1)) with
  | true =>
    simp only [Bool.and_eq_true, beq_iff_eq, decide_eq_true_eq] at h
    exact .inr ⟨rfl, h.1.1, h.1.2, h.2⟩
  | false =>
    refine .inl ⟨rfl, fun h1 h2 => ?_⟩
    rw [h1, h2] at h
    simp only [beq_self_eq_true, Bool.and_self, Bool.true_and, decide_eq_false_iff_not] at h
    omega
theorem updS_take {b s : SltQ} {p : Int} (hp : Int.tmod s.1 2 = p) (h : b.1 < s.1) : updS b (s, (0, ())) p = s := by
  rcases updS_eq b (s, (0, ())) p with ⟨_, h2⟩ | ⟨h1, _⟩
  · have := h2 rfl hp
    simp only at this
    omega
  · exact h1
theorem updS_skip {b s : SltQ} {p : Int} {r : SltQ × (Int × Unit)} (h : r.2.1 ≠ 0 ∨ r.1.1 ≤ b.1) (_hs : s = s) : updS b r p = b := by
  rcases updS_eq b r p with ⟨h1, _⟩ | ⟨_, h2, _, h4⟩
  · exact h1
  · rcases h with h | h
    · exact absurd h2 h
    · omega
theorem noS_gen : noS.1 = 0 := rfl
/-- A slot that has the next number is read; where there is none in its place, the one that was read is read. -/
theorem best_two {l m : List FileQ} {g : Int} (hg : 0 ≤ g) (hb : (bestS l).1 = g) (ho : datF m (nmS g) = datF l (nmS g)) :
    (∀ s : SltQ, decI (datF m (nmS (g + 1))) = (s, (0, ())) → s.1 = g + 1 → bestS m = s) ∧ ((decI (datF m (nmS (g + 1)))).2.1 ≠ 0 → bestS m = bestS l) := by
  rcases Int.emod_two_eq g with he | he
  · -- the next one is in the second place
    rw [nmS_even hg he] at ho
    rw [nmS_odd (g := g + 1) (by omega) (by omega)]
    have hfst : updS noS (decI (datF l sn0)) 0 = bestS l := by
      unfold bestS at hb ⊢
      rcases updS_eq (updS noS (decI (datF l sn0)) 0) (decI (datF l sn1)) 1 with ⟨h1, _⟩ | ⟨h1, h2, h3, h4⟩
      · exact h1.symm
      · rw [h1] at hb
        rw [hb, tmod2 hg] at h3
        omega
    have hm : bestS m = updS (bestS l) (decI (datF m sn1)) 1 := by
      conv => lhs; unfold bestS
      rw [ho, hfst]
    refine ⟨fun s hs h1 => ?_, fun h => ?_⟩
    · rw [hm, hs]
      exact updS_take (by rw [h1, tmod2 (by omega)]; omega) (by omega)
    · rw [hm]
      exact updS_skip (s := noS) (.inl h) rfl
  · rw [nmS_odd hg he] at ho
    rw [nmS_even (g := g + 1) (by omega) (by omega)]
    have hsnd : bestS l = (decI (datF l sn1)).1 ∧ (decI (datF l sn1)).2.1 = 0 ∧ Int.tmod (decI (datF l sn1)).1.1 2 = 1 := by
      unfold bestS at hb ⊢
      rcases updS_eq (updS noS (decI (datF l sn0)) 0) (decI (datF l sn1)) 1 with ⟨h1, _⟩ | ⟨h1, h2, h3, h4⟩
      · exfalso
        rw [h1] at hb
        rcases updS_eq noS (decI (datF l sn0)) 0 with ⟨h5, _⟩ | ⟨h5, h6, h7, _⟩
        · rw [h5, noS_gen] at hb; omega
        · rw [h5] at hb
          rw [hb, tmod2 hg] at h7
          omega
      · exact ⟨h1, h2, h3⟩
    obtain ⟨h1, h2, h3⟩ := hsnd
    rw [h1] at hb
    refine ⟨fun s hs hsg => ?_, fun h => ?_⟩
    · unfold bestS
      rw [hs, ho, updS_take (b := noS) (s := s) (by rw [hsg, tmod2 (by omega)]; omega) (by rw [noS_gen]; omega)]
      exact updS_skip (s := noS) (.inr (by omega)) rfl
    · rw [h1]
      conv => lhs; unfold bestS
      rw [updS_skip (s := noS) (.inl h) rfl, ho]
      rcases updS_eq noS (decI (datF l sn1)) 1 with ⟨_, h5⟩ | ⟨h5, _⟩
      · have := h5 h2 h3
        rw [noS_gen] at this
        omega
      · exact h5
theorem best_same {l m : List FileQ} (h0 : datF m sn0 = datF l sn0) (h1 : datF m sn1 = datF l sn1) : bestS m = bestS l := by
  unfold bestS
  rw [h0, h1]
theorem nmS_01 (g : Int) : nmS g = sn0 ∨ nmS g = sn1 := by
  unfold nmS
  cases Int.tmod g 2 == 0
  · exact .inr rfl
  · exact .inl rfl
theorem nmS_next {g : Int} (h : 0 ≤ g) : nmS g ≠ nmS (g + 1) := by
  rcases Int.emod_two_eq g with he | he
  · rw [nmS_even h he, nmS_odd (g := g + 1) (by omega) (by omega)]; exact sn_ne
  · rw [nmS_odd h he, nmS_even (g := g + 1) (by omega) (by omega)]; exact fun e => sn_ne e.symm
theorem best_all {l m : List FileQ} {g : Int} (hg : 0 ≤ g) (h : datF m (nmS g) = datF l (nmS g)) (h' : datF m (nmS (g + 1)) = datF l (nmS (g + 1))) : bestS m = bestS l := by
  rcases Int.emod_two_eq g with he | he
  · rw [nmS_even hg he] at h
    rw [nmS_odd (g := g + 1) (by omega) (by omega)] at h'
    exact best_same h h'
  · rw [nmS_odd hg he] at h
    rw [nmS_even (g := g + 1) (by omega) (by omega)] at h'
    exact best_same h' h

/-- Once written, and the power gone and come again. -/
structure StepW (d : DiskQ) (next : SltQ) (r : DiskQ × (Int × Unit)) (y : List FileQ) : Prop where
  out : OutW d (nmS next.1) (ints (slotN next)) r
  right : RightD (y, (d.2.1, (-1, (false, ()))))
  all : AllS y
  byt : BytD y
  other : ∀ m, m ≠ nmS next.1 → getF y m = getF d.1 m
  own : (getF y (nmS next.1) = none) ∨ ∃ f, getF y (nmS next.1) = some f ∧ (getF d.1 (nmS next.1) = some f ∨ f.2.1.length ≤ 20)
  ok : r.2.1 = 0 → bestS y = next
  best : bestS y = next ∨ bestS y = bestS d.1
theorem step_ok {d : DiskQ} (h : RightD d) (hu : d.2.2.2.1 = false) (ha : AllS d.1) (hby : BytD d.1) {next : SltQ} (hs : slotB next = true) (hg : next.1 = (bestS d.1).1 + 1) (keep : List Int) : StepW d next (wrS d (nmS next.1) (ints (slotN next))) (backL keep 0 (wrS d (nmS next.1) (ints (slotN next))).1.1) := by
  have hg0 : 0 ≤ (bestS d.1).1 := by
    rcases bestS_pos d.1 with h | h
    · rw [h, noS_gen]; exact Int.le_refl _
    · have := (slotB_iff _).1 h; omega
  have hout := wrS_out h hu ha (nmS_ok next.1) (ints (slotN next))
  have hbb : BytL (ints (slotN next)) := bytL_ints (slotN_byt next)
  have hdec := decI_slot hs
  have hblen : (ints (slotN next)).length = 20 := by rw [ints_length, slotN_len]
  generalize hr : wrS d (nmS next.1) (ints (slotN next)) = r at hout
  generalize hbv : ints (slotN next) = b at hout hbb hdec hblen
  have hother : ∀ m, m ≠ nmS next.1 → getF (backL keep 0 r.1.1) m = getF d.1 m := by
    intro m hm
    obtain ⟨k, hk⟩ := backL_getF (keep := keep) m (l := r.1.1) (i := 0)
    rw [hk, hout.other m hm]
    cases hq : getF d.1 m with
    | none => rfl
    | some f => rw [Option.map_some, leftF_all (ha f (getF_mem hq))]
  have hdo : datF (backL keep 0 r.1.1) (nmS (bestS d.1).1) = datF d.1 (nmS (bestS d.1).1) := by
    unfold datF
    rw [hother _ (by rw [hg]; exact nmS_next hg0)]
  obtain ⟨k, hk⟩ := backL_getF (keep := keep) (nmS next.1) (l := r.1.1) (i := 0)
  have two := best_two (m := backL keep 0 r.1.1) hg0 rfl hdo
  rw [← hg] at two
  have same : getF r.1.1 (nmS next.1) = getF d.1 (nmS next.1) → bestS (backL keep 0 r.1.1) = bestS d.1 ∧ getF (backL keep 0 r.1.1) (nmS next.1) = getF d.1 (nmS next.1) := by
    intro e
    have e2 : getF (backL keep 0 r.1.1) (nmS next.1) = getF d.1 (nmS next.1) := by
      rw [hk, e]
      cases hq : getF d.1 (nmS next.1) with
      | none => rfl
      | some f => rw [Option.map_some, leftF_all (ha f (getF_mem hq))]
    refine ⟨best_all hg0 hdo ?_, e2⟩
    rw [← hg]
    unfold datF
    rw [e2]
  have part : ∀ (x : List Int) (c : Int), getF r.1.1 (nmS next.1) = some (nmS next.1, (x, (c, ()))) → ∃ j, getF (backL keep 0 r.1.1) (nmS next.1) = some (leftF (nmS next.1, (x, (c, ()))) j) ∧ datF (backL keep 0 r.1.1) (nmS next.1) = x.take (keepI (nmS next.1, (x, (c, ()))) j).toNat := by
    intro x c e
    have e2 : getF (backL keep 0 r.1.1) (nmS next.1) = some (leftF (nmS next.1, (x, (c, ()))) k) := by rw [hk, e]; rfl
    refine ⟨k, e2, ?_⟩
    unfold datF
    rw [e2]
    rfl
  have rb := backD_right hout.right keep (-1) (by decide)
  rw [hout.room] at rb
  have bybt : BytD r.1.1 → BytD (backL keep 0 r.1.1) := backL_byt
  have hrb : BytD r.1.1 := by
    intro f hf
    have hq := getF_of_mem hout.right.srt hf
    by_cases hn : f.1 = nmS next.1
    · rw [hn] at hq
      rcases hout.res with ⟨_, e⟩ | ⟨_, _, e | e⟩ | ⟨_, _, e | e⟩
      · rw [hq] at e; cases e; exact hbb
      · rw [hq] at e; exact hby f (getF_mem e.symm)
      · rw [hq] at e; cases e; exact hbb
      · rw [hq] at e; exact hby f (getF_mem e.symm)
      · rw [hq] at e; cases e; exact BytL.nil
    · rw [hout.other _ hn] at hq
      exact hby f (getF_mem hq)
  refine ⟨hbv ▸ hout, rb, backL_all hout.right.sure, bybt hrb, hother, ?_, ?_, ?_⟩
  · rcases hout.res with ⟨_, e⟩ | ⟨_, _, e | e⟩ | ⟨_, _, e | e⟩
    · obtain ⟨j, e2, _⟩ := part _ _ e
      refine .inr ⟨_, e2, .inr ?_⟩
      unfold leftF
      simp only [List.length_take]
      omega
    · rw [(same e).2]
      cases hq : getF d.1 (nmS next.1) with
      | none => exact .inl rfl
      | some f => exact .inr ⟨f, rfl, .inl rfl⟩
    · obtain ⟨j, e2, _⟩ := part _ _ e
      refine .inr ⟨_, e2, .inr ?_⟩
      unfold leftF
      simp only [List.length_take]
      omega
    · rw [(same e).2]
      cases hq : getF d.1 (nmS next.1) with
      | none => exact .inl rfl
      | some f => exact .inr ⟨f, rfl, .inl rfl⟩
    · obtain ⟨j, e2, _⟩ := part _ _ e
      refine .inr ⟨_, e2, .inr ?_⟩
      unfold leftF
      simp
  · intro h0
    rcases hout.res with ⟨_, e⟩ | ⟨h9, _⟩ | ⟨h6, _⟩
    · obtain ⟨j, _, e3⟩ := part _ _ e
      have : keepI (nmS next.1, (b, ((b.length : Int), ()))) j = (b.length : Int) := by unfold keepI; simp only; omega
      rw [this, Int.toNat_natCast, List.take_length] at e3
      exact two.1 next (by rw [e3]; exact hdec) rfl
    · omega
    · omega
  · rcases hout.res with ⟨_, e⟩ | ⟨_, _, e | e⟩ | ⟨_, _, e | e⟩
    · obtain ⟨j, _, e3⟩ := part _ _ e
      have : keepI (nmS next.1, (b, ((b.length : Int), ()))) j = (b.length : Int) := by unfold keepI; simp only; omega
      rw [this, Int.toNat_natCast, List.take_length] at e3
      exact .inl (two.1 next (by rw [e3]; exact hdec) rfl)
    · exact .inr (same e).1
    · obtain ⟨j, _, e3⟩ := part _ _ e
      by_cases hj : (b.take (keepI (nmS next.1, (b, ((0 : Int), ()))) j).toNat).length = 20
      · have : b.take (keepI (nmS next.1, (b, ((0 : Int), ()))) j).toNat = b := by
          rw [List.length_take] at hj
          exact List.take_of_length_le (by omega)
        rw [this] at e3
        exact .inl (two.1 next (by rw [e3]; exact hdec) rfl)
      · refine .inr (two.2 ?_)
        rw [e3, decI_short hj]
        decide
    · exact .inr (same e).1
    · obtain ⟨j, _, e3⟩ := part _ _ e
      refine .inr (two.2 ?_)
      rw [e3, List.take_nil, decI_nil]
      decide
end Go.AI
