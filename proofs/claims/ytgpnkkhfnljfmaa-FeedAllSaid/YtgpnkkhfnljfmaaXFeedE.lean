/- feed: in whatever order notes come. -/
import Derived.Test.YtgpnkkhfnljfmaaXFeedD
namespace Go.AI
open IntKind

theorem held_mono {nx nx' : Int} (h : nx ≤ nx') : ∀ {l : List NoteT} {p : Int}, heldP nx p l → heldP nx' p l
  | [], _, _ => trivial
  | _ :: _, _, ⟨a, b, c⟩ => ⟨a, by omega, held_mono h c⟩
theorem held_row {nx : Int} : ∀ {l : List NoteT} {s : Int}, heldP nx (s - 1) l → heldP nx (s + (rowN l s : Int)) (l.drop (rowN l s))
  | [], s, _ => by simp [heldP]
  | h :: l, s, ⟨a, b, c⟩ => by
    unfold rowN
    by_cases e : h.1 = s
    · rw [if_pos e]
      have c' : heldP nx (s + 1 - 1) l := by rw [e] at c; rw [Int.add_sub_cancel]; exact c
      have := held_row c'
      simp only [List.drop_succ_cons]
      have e2 : s + ((rowN l (s + 1) + 1 : Nat) : Int) = s + 1 + (rowN l (s + 1) : Int) := by omega
      rw [e2]
      exact this
    · rw [if_neg e]
      simp only [List.drop_zero, Int.natCast_zero, Int.add_zero]
      exact ⟨by omega, b, c⟩
theorem row_seq : ∀ {l : List NoteT} {s : Int} {j : Nat} (hj : j < l.length), j < rowN l s → (l[j]).1 = s + (j : Int)
  | [], _, _, hj, _ => absurd hj (by simp)
  | h :: l, s, j, hj, hr => by
    unfold rowN at hr
    by_cases e : h.1 = s
    · rw [if_pos e] at hr
      cases j with
      | zero => simp [e]
      | succ j =>
        have := row_seq (l := l) (s := s + 1) (j := j) (by simpa using hj) (by omega)
        simp only [List.getElem_cons_succ]
        rw [this]
        omega
    · rw [if_neg e] at hr
      omega
theorem held_put {nx : Int} (n : NoteT) : ∀ {l : List NoteT} {p : Int}, heldP nx p l → p < n.1 → n.1 ≤ nx + 8 → heldP nx p (putF n l)
  | [], _, _, h1, h2 => ⟨h1, h2, trivial⟩
  | h :: l, p, ⟨a, b, c⟩, h1, h2 => by
    unfold putF
    by_cases e : h.1 = n.1
    · rw [if_pos e]; exact ⟨a, b, c⟩
    · rw [if_neg e]
      by_cases e2 : n.1 < h.1
      · rw [if_pos e2]; exact ⟨h1, h2, e2, b, c⟩
      · rw [if_neg e2]; exact ⟨a, b, held_put n c (by omega) h2⟩
theorem held_len {nx : Int} : ∀ {l : List NoteT} {p : Int}, heldP nx p l → p ≤ nx + 8 → (l.length : Int) ≤ nx + 8 - p
  | [], p, _, h => by simp; omega
  | h :: l, p, ⟨a, b, c⟩, _ => by
    have := held_len c b
    simp only [List.length_cons]
    omega

/-- What a note that may come makes of a feed that is right. -/
theorem come_ok {f : FeedT} {n : NoteT} {nx : Int} (hr : rightP f nx) (hn : 1 ≤ n.1 ∧ n.1 ≤ 1000000000) (hx : nx ≤ 900000000) :
    ∃ f' rd, comeF f n nx = (f', (rd, (0, ()))) ∧ rightP f' (nx + (rd.length : Int)) ∧ rd.length ≤ 9 ∧ (∀ j (hj : j < rd.length), (rd[j]).1 = nx + (j : Int) ∧ (rd[j] = n ∨ rd[j] ∈ f.1)) ∧ (∀ h ∈ f'.1, h = n ∨ h ∈ f.1) := by
  obtain ⟨d1, d2, d3, d4⟩ := id hr
  unfold comeF
  rw [if_neg (by intro h; rcases h with h | h | h; exact h hr; omega; omega)]
  by_cases b1 : n.1 < nx
  · rw [if_pos b1]
    exact ⟨f, [], rfl, by simpa using hr, by simp, fun j hj => absurd hj (by simp), fun h hh => .inr hh⟩
  rw [if_neg b1]
  by_cases b2 : n.1 > nx + 8
  · rw [if_pos b2]
    exact ⟨_, [], rfl, by simpa [rightP] using hr, by simp, fun j hj => absurd hj (by simp), fun h hh => .inr hh⟩
  rw [if_neg b2]
  by_cases b3 : n.1 = nx
  · rw [if_pos b3]
    have hk := rowN_le f.1 (nx + 1)
    have hlen : (n :: f.1.take (rowN f.1 (nx + 1))).length = rowN f.1 (nx + 1) + 1 := by rw [List.length_cons, List.length_take]; omega
    refine ⟨_, _, rfl, ?_, by rw [hlen]; omega, ?_, fun h hh => .inr (List.mem_of_mem_drop hh)⟩
    · have h1 : heldP nx (nx + 1 - 1) f.1 := by rw [Int.add_sub_cancel]; exact d4
      have h2 := held_row h1
      rw [hlen]
      have e : nx + ((rowN f.1 (nx + 1) + 1 : Nat) : Int) = nx + 1 + (rowN f.1 (nx + 1) : Int) := by omega
      rw [e]
      exact ⟨by omega, by omega, by simp; omega, held_mono (by omega) h2⟩
    · intro j hj
      cases j with
      | zero => exact ⟨by simp [b3], .inl rfl⟩
      | succ j =>
        rw [hlen] at hj
        have hj1 : j < f.1.length := by omega
        simp only [List.getElem_cons_succ, List.getElem_take]
        refine ⟨?_, .inr (List.getElem_mem hj1)⟩
        rw [row_seq (s := nx + 1) hj1 (by omega)]
        omega
  · rw [if_neg b3]
    have hp := held_put n d4 (by omega) (by omega)
    have hl := held_len hp (by omega)
    refine ⟨_, [], rfl, ?_, by simp, fun j hj => absurd hj (by simp), ?_⟩
    · simp only [List.length_nil, Int.natCast_zero, Int.add_zero]
      exact ⟨d1, d2, by simp only; omega, hp⟩
    · have : ∀ l : List NoteT, ∀ h ∈ putF n l, h = n ∨ h ∈ l := by
        intro l
        induction l with
        | nil => intro h hh; simp [putF] at hh; exact .inl hh
        | cons a l ih =>
          intro h hh
          unfold putF at hh
          split at hh
          · exact .inr hh
          · split at hh
            · rcases List.mem_cons.1 hh with h1 | h1
              · exact .inl h1
              · exact .inr h1
            · rcases List.mem_cons.1 hh with h1 | h1
              · exact .inr (by rw [h1]; exact List.mem_cons_self ..)
              · rcases ih h h1 with h2 | h2
                · exact .inl h2
                · exact .inr (List.mem_cons_of_mem _ h2)
      exact this f.1

def noteF (s : Int) : NoteT := (s, (1, ((IntKind.wrap .i64 (s * 3)), (0, (0, ())))))
theorem law_note (s : Int) : g_law17_note (s, ()) = some (noteF s) := rfl

theorem ready_loop {γ : Type} (rd : List NoteT) (nx : Int) (h0 : 0 ≤ nx ∧ nx ≤ 1000000000) (hl : rd.length ≤ 9) (h : ∀ j (hj : j < rd.length), rd[j] = noteF (nx + (j : Int))) (z : (Int × Unit) ⊕ γ) :
    loopO (fun (v6 : (Int × (Int × Unit))) =>
          bif (decide (v6.2.1 < (rd.length : Int))) then ((getI rd v6.2.1)).bind (fun (v7 : NoteT) =>
            ((g_law17_note (v6.1, ()))).bind (fun (v8 : NoteT) =>
             bif (!((v7.1 == v8.1) && ((v7.2.1 == v8.2.1) && ((v7.2.2.1 == v8.2.2.1) && ((v7.2.2.2.1 == v8.2.2.2.1) && ((v7.2.2.2.2.1 == v8.2.2.2.2.1) && true)))))) then some (.inr z)
             else some (.inl ((IntKind.wrap .i64 (v6.1 + 1)), ((IntKind.wrap .i64 (v6.2.1 + 1)), ())))))
          else (some (.inl (v6.1, ()))).map .inr) (nx, (0, ())) = some (.inl (nx + (rd.length : Int), ())) := by
  rw [loop_over0 rd (fun i (b : Int) => (b, ((i : Int), ()))) (fun l b => (.inl (b + (l.length : Int), ()) : (Int × Unit) ⊕ γ)) (fun i b => b = nx + (i : Int)) (b := nx) ?_ ?_ (by simp) (by rfl)]
  · intro b _
    simp only [ltI', cond_false]
    simp
  · intro i b hi hb
    subst hb
    left
    refine ⟨nx + ((i + 1 : Nat) : Int), ?_, rfl, ?_⟩
    · simp only [ltI hi, cond_true, getI_at hi, Option.bind_some, law_note, h i hi, eqN, Bool.not_true, cond_false, wrap_succ (n := i) (by omega)]
      rw [wrap_i64_in (by omega) (by omega), Int.add_assoc]
      rfl
    · rw [drop_at hi]
      simp only [List.length_cons]
      congr 2
      omega

theorem loop_then {τ ε σ ρ : Type} {step : τ → Option (τ ⊕ ε)} (st : σ → τ) (I : σ → Prop) (Q : ε → Prop) (μ : σ → Nat) (x : σ) {t0 : τ} {k : ε → Option ρ} {r : ρ} (ht : t0 = st x) (hx : I x)
    (h : ∀ x, I x → (∃ y, step (st x) = some (.inl (st y)) ∧ I y ∧ μ y < μ x) ∨ ∃ o, step (st x) = some (.inr o) ∧ Q o) (hk : ∀ o, Q o → k o = some r) : (loopO step t0).bind k = some r := by
  subst ht
  obtain ⟨o, h1, h2⟩ := loop_meas st I Q μ h hx
  rw [h1]
  exact hk o h2

theorem pure_FeedOrders (a : (List Int) × (Int × Unit)) (h : Rg (consS [.slice 1 (.int .u8), .int .u16]) a) : g_law17_FeedOrders a = some true := by
  obtain ⟨xs, fr, ⟨⟩⟩ := a
  obtain ⟨hx, hf, _⟩ := h
  have hx2 : ∀ x ∈ xs, 0 ≤ x ∧ x < 256 := fun x hxs => rg_u8 (hx.2 x hxs)
  have hf2 : 0 ≤ fr ∧ fr < 65536 := wf_u16 hf
  unfold g_law17_FeedOrders
  simp only [awake17, Option.bind_some, Bool.not_true, cond_false]
  by_cases c : (xs.length : Int) > 90
  · rw [decide_eq_true c]; rfl
  rw [decide_eq_false c]
  simp only [cond_false, wrap_i64_in (n := fr) (by omega) (by omega), wrap_i64_in (n := fr + 1) (by omega) (by omega)]
  refine loop_then (fun (x : Nat × (Int × FeedT)) => (x.2.1, ((x.1 : Int), x.2.2)))
    (fun x => x.1 ≤ xs.length ∧ 1 ≤ x.2.1 ∧ x.2.1 ≤ 65537 + 9 * (x.1 : Int) ∧ rightP x.2.2 x.2.1 ∧ ∀ h ∈ x.2.2.1, h = noteF h.1) (fun o => ∃ f, o = .inl f) (fun x => xs.length - x.1) (0, (fr + 1, ([], (false, ())))) rfl ?_ ?_ ?_
  rotate_left
  · rintro ⟨i, nx, f⟩ ⟨h1, h2, h3, h4, h5⟩
    simp only at h1 h2 h3 h4 h5
    by_cases hi : i < xs.length
    · left
      have hx3 := hx2 _ (List.getElem_mem hi)
      have hm : Int.tmod xs[i] 64 = xs[i] % 64 := Int.tmod_eq_emod_of_nonneg hx3.1
      have ew : IntKind.wrap .i64 (fr + 1 + IntKind.wrap .i64 (Int.tmod xs[i] 64)) = fr + 1 + xs[i] % 64 := by
        rw [hm, wrap_i64_in (n := xs[i] % 64) (by omega) (by omega), wrap_i64_in (by omega) (by omega)]
      obtain ⟨f', rd, q1, q2, q3, q4, q5⟩ := come_ok (n := noteF (fr + 1 + xs[i] % 64)) h4 (by simp only [noteF]; omega) (by omega)
      have hall : ∀ j (hj : j < rd.length), rd[j] = noteF (nx + (j : Int)) := by
        intro j hj
        obtain ⟨e1, e2⟩ := q4 j hj
        rcases e2 with e2 | e2
        · rw [← e1, e2]; rfl
        · rw [← e1]; exact h5 _ e2
      refine ⟨(i + 1, (nx + (rd.length : Int), f')), ?_, ⟨by simp only; omega, by simp only; omega, by simp only; omega, q2, ?_⟩, by simp only; omega⟩
      · simp only [ltI hi, cond_true, getI_at hi, Option.bind_some, ew, law_note, feed_Come, q1, bne_self_eq_false, cond_false]
        have key := ready_loop rd nx (by omega) q3 hall (.inr (.inr (.inr false : FeedT ⊕ Bool) : (Int × (Int × FeedT)) ⊕ (FeedT ⊕ Bool)))
        simp only [law_note, Option.bind_some, Option.map_some] at key ⊢
        rw [key]
        simp only [Option.bind_some, eX, feed_Right, decide_eq_true q2, Bool.not_true, cond_false, wrap_succ (n := i) (by omega)]
      · intro h hh
        rcases q5 h hh with e | e
        · rw [e]; rfl
        · exact h5 h e
    · right
      have : i = xs.length := by omega
      subst this
      refine ⟨.inl f, ?_, f, rfl⟩
      simp only [ltI', cond_false]
      rfl
  · rintro o ⟨f, rfl⟩
    rfl
  · refine ⟨Nat.zero_le _, by simp only; omega, by simp only; omega, ?_, fun h hh => by cases hh⟩
    exact ⟨by simp only; omega, by simp only; omega, by simp, trivial⟩
end Go.AI
