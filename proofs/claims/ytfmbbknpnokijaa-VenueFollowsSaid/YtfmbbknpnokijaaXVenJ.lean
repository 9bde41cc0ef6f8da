/- venue: VenueFollows. -/
import Derived.Test.YtfmbbknpnokijaaXVenI
namespace Go.AI
open IntKind

def chgO (o : OrdR) (q p : Int) : OrdR := (o.1, (o.2.1, (o.2.2.1, (o.2.2.2.1, (o.2.2.2.2.1, (o.2.2.2.2.2.1, (o.2.2.2.2.2.2.1, (o.2.2.2.2.2.2.2.1, (q, (p, (o.2.2.2.2.2.2.2.2.2.2.1 + 1, o.2.2.2.2.2.2.2.2.2.2.2)))))))))))
theorem order_Change (o : OrdR) (q p : Int) (hv : R_i64 (o.2.2.2.2.2.2.2.2.2.2.1)) (hf : fit (o.2.2.2.2.2.2.2.2.2.2.1 + 1)) (ho : ordP o) (hq : 1 ≤ q) (hp : 1 ≤ p) (ha : o.2.2.2.2.2.2.2.2.2.2.2.1 = false) :
    g_order_Change ((o.1, (o.2.1, (o.2.2.1, (o.2.2.2.1, (o.2.2.2.2.1, (o.2.2.2.2.2.1, (o.2.2.2.2.2.2.1, (o.2.2.2.2.2.2.2.1, (o.2.2.2.2.2.2.2.2.1, (o.2.2.2.2.2.2.2.2.2.1, (o.2.2.2.2.2.2.2.2.2.2.1, (o.2.2.2.2.2.2.2.2.2.2.2.1, ())))))))))))), (q, (p, ()))) = some (if o.2.2.2.2.2.2.2.1 = 2 ∧ ¬ pend o then (chgO o q p, (0, ())) else (o, (8, ()))) := by
  show g_order_Change (o, (q, (p, ()))) = _
  unfold g_order_Change
  dsimp only
  rw [num_Add hv (show R_i64 1 by unfold R_i64; omega), if_pos hf, order_Right, decide_eq_true ho]
  unfold g_order_pending
  simp only [Option.bind_some, Bool.not_true, cond_false]
  rw [decide_eq_false (show ¬ q < 1 by omega), decide_eq_false (show ¬ p < 1 by omega)]
  simp only [cond_false, Option.bind_some, bne_self_eq_false, ha]
  unfold fit at hf
  rw [wrap_of hf.1 hf.2]
  by_cases h2 : o.2.2.2.2.2.2.2.1 = 2
  · have e : (o.2.2.2.2.2.2.2.1 != 2) = false := by simp [h2]
    rw [e, cond_false]
    by_cases hp : pend o
    · have ep : (o.2.2.2.2.2.2.2.2.1 != 0 || o.2.2.2.2.2.2.2.2.2.1 != 0) = true := by unfold pend at hp; simp; omega
      rw [ep, if_neg (by simp [hp])]
      rfl
    · have ep : (o.2.2.2.2.2.2.2.2.1 != 0 || o.2.2.2.2.2.2.2.2.2.1 != 0) = false := by unfold pend at hp; simp; omega
      rw [ep, if_pos ⟨h2, hp⟩]
      simp only [cond_false, Option.bind_some, ha]
      rfl
  · have e : (o.2.2.2.2.2.2.2.1 != 2) = true := by simp [h2]
    rw [e, cond_true, if_neg (by simp [h2])]
    rfl

def askM (o : OrdR) (q p : Int) : MsgR := (2, (1, (0, (0, (1, (q, (p, (o.2.2.2.2.2.2.2.2.2.2.1 + 1, (0, ())))))))))
theorem fol_change {v : VenR} {o : OrdR} {rd : Nat} (f : Fol v o rd) {q p : Int} (h2 : o.2.2.2.2.2.2.2.1 = 2) (hnp : ¬ pend o) (hq : 1 ≤ q) (hp : 1 ≤ p) (rq : R_i64 q) (rp : R_i64 p) (hf : fit (o.2.2.2.2.2.2.2.2.2.2.1 + 1)) :
    (sendV v (askM o q p)).2.1 = 0 ∧ Fol (sendV v (askM o q p)).1 (chgO o q p) rd := by
  have hop := f.op
  obtain ⟨a1, a2, a3, a4, a5, a6⟩ := f.op
  obtain ⟨r1, r2, r3, r4, r5, r6, r7, r8, r9, r10, r11⟩ := f.oR
  have hop' : ordP (chgO o q p) := ⟨a1, a2, a3, by unfold chgO; dsimp only; omega, fun _ => ⟨hq, hp⟩, .inr (.inl ⟨h2, by
    have : o.2.2.2.2.2.2.1 < o.2.2.2.2.1 := by
      rcases a6 with a | a | a
      · omega
      · exact a.2
      · omega
    exact this⟩)⟩
  have hm : msgP (askM o q p) := by
    unfold msgP idP askM
    dsimp only
    omega
  have hrm : R_MsgR (askM o q p) := ⟨r_small (n := 1) (by decide) (by decide), r_zero, r_zero, r_small (n := 1) (by decide) (by decide), rq, rp, hf⟩
  have st := f.st
  have hr := (rightV_iff v).2 f.good.rt
  have hg := good_send f.good hrm
  cases st with
  | sent m h1 h2' h3 h4 h5 h6 h7 h8 => omega
  | known x w h1 h2' h3 h4 h5 h6 h7 h8 h9 =>
    rcases h9 with ⟨e, hpw⟩ | ⟨m, e, k1, k2, k3, k4, k5, k6, k7⟩
    rotate_left
    · rcases k6 with k6 | k6
      · exact absurd k6 hnp
      · omega
    have hs : sendV v (askM o q p) = (([askM o q p], v.2), (0, ())) := by
      unfold sendV
      rw [if_neg (by simp [hr, hm]), e, if_neg (by simp)]
      rfl
    rw [hs] at hg ⊢
    refine ⟨rfl, hg, f.rn, hop', ⟨r1, r2, r3, r4, r5, r6, r7, r8, rq, rp, hf⟩, f.o1, f.ask, f.rdl, ?_⟩
    have hl : Like q p o (chgO o q p) := ⟨hop', rfl, rfl, rfl, rfl, rfl, by omega, hnp, fun _ => ⟨rfl, rfl⟩⟩
    obtain ⟨w', q1, q2⟩ := h3.like hl
    have hc := h3.calm hnp (by omega)
    exact .known x w' h1 h2' q1 (q2.qty.trans h4) (q2.price.trans h5) (q2.filled.trans h6) (q2.phase.trans h7) (by unfold chgO; dsimp only; omega) (.inr ⟨_, rfl, rfl, rfl, fun hw => q2.asks (by rw [← q2.phase]; exact hw), by unfold askM; dsimp only; omega, Int.le_refl _, .inl (by unfold pend chgO; dsimp only; omega), hc.1⟩)

/-! ### The law -/
abbrev FolT : Type := Int × (Int × (Int × (Int × (Int × (Int × (Int × (Int × (Int × (Int × (Int × (Bool × VenueT)))))))))))
def cmpO (o : OrdR) (v : VenR) : FolT := (o.1, (o.2.1, (o.2.2.1, (o.2.2.2.1, (o.2.2.2.2.1, (o.2.2.2.2.2.1, (o.2.2.2.2.2.2.1, (o.2.2.2.2.2.2.2.1, (o.2.2.2.2.2.2.2.2.1, (o.2.2.2.2.2.2.2.2.2.1, (o.2.2.2.2.2.2.2.2.2.2.1, (o.2.2.2.2.2.2.2.2.2.2.2.1, v))))))))))))
def o0F (q p : Int) : OrdR := (1, (0, (0, (1, (q, (p, (0, (1, (0, (0, (0, (false, ()))))))))))))
def m0F (q p : Int) : MsgR := (1, (1, (0, (0, (1, (q, (p, (0, (0, ())))))))))
theorem o0F_ok {q p : Int} (h1 : 1 ≤ q) (h2 : 1 ≤ p) : ordP (o0F q p) ∧ msgP (m0F q p) := by
  constructor
  · unfold ordP newP idP pend o0F
    dsimp only
    simp
    omega
  · unfold msgP idP m0F
    dsimp only
    omega
theorem fol_begin {q p : Int} (h1 : 1 ≤ q) (h2 : 1 ≤ p) (rq : R_i64 q) (rp : R_i64 p) : sendV emV (m0F q p) = (([m0F q p], ([], ([], ()))), (0, ())) ∧ Fol ([m0F q p], ([], ([], ()))) (o0F q p) 0 := by
  obtain ⟨k1, k2⟩ := o0F_ok h1 h2
  have hs : sendV emV (m0F q p) = (([m0F q p], ([], ([], ()))), (0, ())) := by
    unfold sendV
    rw [if_neg (by rw [(rightV_iff emV).2 good_em.rt]; simp [k2]), if_neg (by simp [emV])]
    rfl
  have hg := good_send good_em (m := m0F q p) ⟨r_small (n := 1) (by decide) (by decide), r_zero, r_zero, r_small (n := 1) (by decide) (by decide), rq, rp, r_zero⟩
  rw [hs] at hg
  exact ⟨hs, hg, (fun n hn => by cases hn), k1, ⟨r_small (n := 1) (by decide) (by decide), r_zero, r_zero, r_small (n := 1) (by decide) (by decide), rq, rp, r_zero, r_small (n := 1) (by decide) (by decide), r_zero, r_zero, r_zero⟩, rfl, rfl, Nat.le_refl _, .sent _ rfl rfl rfl rfl rfl rfl rfl rfl⟩

theorem plus_one {x : Int} (h : 0 ≤ x ∧ x < 256) : IntKind.wrap .i64 ((IntKind.wrap .i64 x) + 1) = x + 1 := by
  rw [wrap_i64_in (n := x) (by omega) (by omega), wrap_i64_in (by omega) (by omega)]

theorem order_Take' {v : VenR} {o : OrdR} {rd : Nat} (f : Fol v o rd) (hlt : rd < v.2.2.1.length) : ∃ o', g_order_Take (o, (v.2.2.1[rd], ())) = some (o', (0, ())) ∧ Fol v o' (rd + 1) ∧ o'.2.2.2.2.2.2.2.2.2.2.1 = o.2.2.2.2.2.2.2.2.2.2.1 := by
  obtain ⟨o', h1, h2, h3⟩ := fol_read f hlt
  exact ⟨o', by rw [order_Take _ _ f.oR (f.rn _ (List.getElem_mem hlt)), h1], h2, h3⟩

theorem fol_end {v : VenR} {o : OrdR} (f : Fol v o v.2.2.1.length) : ((g_venue_Find (v, (1, ())))).bind (fun (v31 : Int) =>
       bif (decide (v31 < 0)) then some ((o.2.2.2.2.2.2.2.1 == 1) && ((v.2.2.1.length : Int) == 0))
       else bif (decide (v31 ≥ (v.2.1.length : Int))) then some false
       else ((getI v.2.1 v31)).bind (fun (v32 : OrderT) =>
        some ((((v32.2.2.2.2.1 == o.2.2.2.2.1) && (v32.2.2.2.2.2.1 == o.2.2.2.2.2.1)) && (v32.2.2.2.2.2.2.1 == o.2.2.2.2.2.2.1)) && (v32.2.2.2.2.2.2.2.1 == o.2.2.2.2.2.2.2.1)))) = some true := by
  have hl := f.good.rt.ods
  rw [venue_Find v 1 (by omega), Option.bind_some]
  have st := f.st
  cases st with
  | sent m h1 h2 h3 h4 h5 h6 h7 h8 =>
    rw [h6, h7, h8]
    rfl
  | known x w h1 h2 h3 h4 h5 h6 h7 h8 h9 =>
    rw [List.drop_length] at h3
    cases h3
    rw [h1]
    have e : posO [x] 1 = some 0 := by
      simp only [posO]
      rw [if_pos h2]
    rw [e]
    dsimp only [atI]
    simp only [show (((0 : Nat) : Int) < 0) = False from eq_false (by omega), show (((0 : Nat) : Int) ≥ (([x] : List OrdR).length : Int)) = False from eq_false (by simp), decide_false, cond_false]
    rw [getI_nat, List.getElem?_cons_zero, Option.bind_some, h4, h5, h6, h7]
    simp

theorem pure_VenueFollows (a : Int × (Int × (List DeedT × Unit))) (h : Rg (consS [(.int .u8), (.int .u8), (.slice 5 shDeed)]) a) : g_law16_VenueFollows a = some true := by
  obtain ⟨q0, p0, l, ⟨⟩⟩ := a
  obtain ⟨hq0, hp0, ⟨_, hds⟩, _⟩ := h
  have hq0 : 0 ≤ q0 ∧ q0 < 256 := rg_u8 hq0
  have hp0 : 0 ≤ p0 ∧ p0 < 256 := rg_u8 hp0
  have hd : ∀ d ∈ l, (0 ≤ d.2.2.1 ∧ d.2.2.1 < 256) ∧ (0 ≤ d.2.2.2.1 ∧ d.2.2.2.1 < 256) := by
    intro d hd
    have hm : List.Mem d l := hd
    obtain ⟨_, _, g3, g4, _⟩ := hds d hm
    exact ⟨rg_u8 g3, rg_u8 g4⟩
  unfold g_law16_VenueFollows
  rw [awake_ok]
  simp only [Option.bind_some, Bool.not_true, cond_false]
  by_cases hl : l.length ≤ 60
  rotate_left
  · rw [decide_eq_true (by omega), cond_true]
  rw [decide_eq_false (by omega), cond_false, plus_one hq0, plus_one hp0]
  have rq : R_i64 (q0 + 1) := by unfold R_i64; omega
  have rp : R_i64 (p0 + 1) := by unfold R_i64; omega
  obtain ⟨b1, b2⟩ := fol_begin (q := q0 + 1) (p := p0 + 1) (by omega) (by omega) rq rp
  have hb : g_order_Begin ((1, (1, (0, (0, (1, (q0 + 1, (p0 + 1, (0, (0, (0, (false, (0, (0, ()))))))))))))), ()) = some (o0F (q0 + 1) (p0 + 1), (0, ())) := by
    unfold g_order_Begin
    simp only [bne_self_eq_false, cond_false]
    rw [rec_New, decide_eq_true (by unfold newP idP; omega)]
    rfl
  rw [hb, Option.bind_some]
  rw [show g_venue_Send (([], ([], ([], ()))), ((1, (1, (0, (0, (1, ((o0F (q0 + 1) (p0 + 1), ((0 : Int), ())).1.2.2.2.2.1, ((o0F (q0 + 1) (p0 + 1), ((0 : Int), ())).1.2.2.2.2.2.1, (0, (0, ()))))))))), ())) = some (([m0F (q0 + 1) (p0 + 1)], ([], ([], ()))), (0, ())) from (venue_Send emV (m0F (q0 + 1) (p0 + 1))).trans (by rw [b1]), Option.bind_some]
  have hver : (o0F (q0 + 1) (p0 + 1)).2.2.2.2.2.2.2.2.2.2.1 = 0 := rfl
  generalize o0F (q0 + 1) (p0 + 1) = oB at b2 hver
  generalize hvB : (([m0F (q0 + 1) (p0 + 1)], ([], ([], ()))) : VenR) = vB at b2
  rw [show (((oB, ((0 : Int), ())).2.1 != 0) || ((vB, ((0 : Int), ())).2.1 != 0)) = false from rfl, cond_false]
  generalize hstep : (fun v4 : Int × (Int × FolT) => bif (decide (v4.2.1 < (l.length : Int))) then _ else _) = step
  obtain ⟨w, q1, rd, o, v, rfl, f⟩ := loop_meas (step := step) (fun x : Nat × (Nat × (OrdR × VenR)) => ((x.1 : Int), ((x.2.1 : Int), cmpO x.2.2.1 x.2.2.2))) (fun x => x.2.1 ≤ l.length ∧ Fol x.2.2.2 x.2.2.1 x.1 ∧ x.2.2.1.2.2.2.2.2.2.2.2.2.2.1 ≤ x.2.1)
    (fun w => ∃ (rd : Nat) (o : OrdR) (v : VenR), w = .inl ((rd : Int), cmpO o v) ∧ Fol v o rd) (fun x => l.length - x.2.1) (by
    rintro ⟨rd, i, o, v⟩ ⟨hi, f, hve⟩
    dsimp only at hi f hve ⊢
    rw [← hstep]
    dsimp only
    by_cases hlt : i < l.length
    rotate_left
    · right
      rw [decide_eq_false (by omega), cond_false]
      exact ⟨_, rfl, rd, o, v, rfl, f⟩
    left
    rw [ltI hlt, cond_true]
    simp only [getI_at hlt, Option.bind_some]
    have hdd := hd _ (List.getElem_mem hlt)
    generalize l[i] = d at hdd
    generalize hF : (fun (v20 : FolT) => ((loopO _ _).bind _)) = F
    have fin : ∀ X, (∃ o1 v1, X = some (.inl (cmpO o1 v1)) ∧ Fol v1 o1 rd ∧ o1.2.2.2.2.2.2.2.2.2.2.1 ≤ (i : Int) + 1) → ∃ y : Nat × (Nat × (OrdR × VenR)), (X.bind (eX F)) = some (.inl ((y.1 : Int), ((y.2.1 : Int), cmpO y.2.2.1 y.2.2.2))) ∧ (y.2.1 ≤ l.length ∧ Fol y.2.2.2 y.2.2.1 y.1 ∧ y.2.2.1.2.2.2.2.2.2.2.2.2.2.1 ≤ y.2.1) ∧ l.length - y.2.1 < l.length - i := by
      rintro X ⟨o1, v1, rfl, f1, hv1⟩
      rw [Option.bind_some]
      simp only [eX]
      rw [← hF]
      dsimp only [cmpO]
      generalize hstep2 : (fun v21 : Int × OrderT => bif _ then _ else _) = step2
      obtain ⟨w2, p1, r', o', rfl, f', hv'⟩ := loop_meas (step := step2) (fun x : Nat × OrdR => ((x.1 : Int), x.2)) (fun x => Fol v1 x.2 x.1 ∧ x.2.2.2.2.2.2.2.2.2.2.2.1 ≤ (i : Int) + 1) (fun w => ∃ (r : Nat) (o' : OrdR), w = .inl ((r : Int), o') ∧ Fol v1 o' r ∧ o'.2.2.2.2.2.2.2.2.2.2.1 ≤ (i : Int) + 1) (fun x => v1.2.2.1.length - x.1) (by
        rintro ⟨r, o2⟩ ⟨f2, hv2⟩
        dsimp only at f2 hv2 ⊢
        rw [← hstep2]
        dsimp only
        cases hc : ((Int.tmod d.2.2.2.1 2) == 0) with
        | false =>
          right
          rw [Bool.false_and, cond_false]
          exact ⟨_, rfl, r, o2, rfl, f2, hv2⟩
        | true =>
          rw [Bool.true_and]
          by_cases hlt2 : r < v1.2.2.1.length
          · left
            obtain ⟨o3, e1, f3, hv3⟩ := order_Take' f2 hlt2
            refine ⟨(r + 1, o3), ?_, ⟨f3, by dsimp only; omega⟩, by dsimp only; omega⟩
            rw [ltI hlt2, cond_true, getI_at hlt2, Option.bind_some, e1, Option.bind_some, wrap_succ (by have := f2.good.rt.nts; omega)]
            rfl
          · right
            rw [decide_eq_false (by omega), cond_false]
            exact ⟨_, rfl, r, o2, rfl, f2, hv2⟩) (x := (rd, o1)) ⟨f1, hv1⟩
      have p1 : loopO step2 ((rd : Int), o1) = some (.inl ((r' : Int), o')) := p1
      refine ⟨(r', (i + 1, (o', v1))), ?_, ⟨by dsimp only; omega, f', by dsimp only; omega⟩, by dsimp only; omega⟩
      show (loopO step2 ((rd : Int), o1)).bind _ = _
      rw [p1, Option.bind_some, wrap_succ (by omega)]
      rfl
    refine fin _ ?_
    clear fin hF F hstep
    dsimp only [cmpO]
    cases h0 : (Int.tmod d.1 4 == 0) with
    | true =>
      rw [cond_true, show d.2.2.2.2 = (d.2.2.2.2.1, ()) from rfl, venue_Take]
      exact ⟨o, _, rfl, fol_take f _, by omega⟩
    | false =>
    rw [cond_false]
    cases h1 : (Int.tmod d.1 4 == 1) with
    | true =>
      rw [cond_true, plus_one hdd.1, venue_Fill v 1 _ f.good.ro (by unfold R_i64; omega)]
      exact ⟨o, _, rfl, fol_fill f _, by omega⟩
    | false =>
    rw [cond_false]
    cases h2 : (Int.tmod d.1 4 == 2) with
    | true =>
      rw [cond_true, venue_Out]
      cases (Int.tmod d.2.2.1 8 == 0) with
      | true => exact ⟨o, _, rfl, fol_leave f, by omega⟩
      | false => exact ⟨o, v, rfl, f, by omega⟩
    | false =>
    rw [cond_false, plus_one hdd.1, plus_one hdd.2]
    obtain ⟨_, _, _, hver0, _⟩ := f.op
    have hfit : fit (o.2.2.2.2.2.2.2.2.2.2.1 + 1) := by unfold fit; omega
    rw [order_Change o _ _ f.oR.2.2.2.2.2.2.2.2.2.2 hfit f.op (by omega) (by omega) f.ask]
    by_cases hc : o.2.2.2.2.2.2.2.1 = 2 ∧ ¬ pend o
    · rw [if_pos hc]
      obtain ⟨g1, g2⟩ := fol_change f hc.1 hc.2 (q := d.2.2.1 + 1) (p := d.2.2.2.1 + 1) (by omega) (by omega) (by unfold R_i64; omega) (by unfold R_i64; omega) hfit
      simp only [Option.bind_some, beq_self_eq_true, cond_true]
      rw [show g_venue_Send (v, ((2, (1, (0, (0, (1, ((chgO o (d.2.2.1 + 1) (d.2.2.2.1 + 1)).2.2.2.2.2.2.2.2.1, ((chgO o (d.2.2.1 + 1) (d.2.2.2.1 + 1)).2.2.2.2.2.2.2.2.2.1, ((chgO o (d.2.2.1 + 1) (d.2.2.2.1 + 1)).2.2.2.2.2.2.2.2.2.2.1, (0, ()))))))))), ())) = some (sendV v (askM o (d.2.2.1 + 1) (d.2.2.2.1 + 1))) from venue_Send v (askM o (d.2.2.1 + 1) (d.2.2.2.1 + 1))]
      simp only [Option.bind_some, g1, bne_self_eq_false, cond_false]
      exact ⟨chgO o (d.2.2.1 + 1) (d.2.2.2.1 + 1), _, rfl, g2, by unfold chgO; dsimp only; omega⟩
    · rw [if_neg hc]
      exact ⟨o, v, rfl, f, by omega⟩) (x := (0, (0, (oB, vB)))) ⟨Nat.zero_le _, b2, by dsimp only; omega⟩
  have q1 : loopO step ((0 : Int), ((0 : Int), cmpO oB vB)) = some (.inl ((rd : Int), cmpO o v)) := q1
  show (loopO step ((0 : Int), ((0 : Int), cmpO oB vB))).bind _ = _
  rw [q1]
  clear q1
  rw [Option.bind_some]
  dsimp only [eX, cmpO]
  generalize hstep3 : (fun v27 : Int × OrderT => bif _ then _ else _) = step3
  obtain ⟨w2, q2, o', rfl, f'⟩ := loop_meas (step := step3) (fun x : Nat × OrdR => ((x.1 : Int), x.2)) (fun x => Fol v x.2 x.1) (fun w => ∃ o', w = .inl o' ∧ Fol v o' v.2.2.1.length) (fun x => v.2.2.1.length - x.1) (by
    rintro ⟨r, o2⟩ f2
    dsimp only at f2 ⊢
    rw [← hstep3]
    dsimp only
    by_cases hlt2 : r < v.2.2.1.length
    · left
      obtain ⟨o3, e1, f3, _⟩ := order_Take' f2 hlt2
      refine ⟨(r + 1, o3), ?_, f3, by dsimp only; omega⟩
      rw [ltI hlt2, cond_true, getI_at hlt2, Option.bind_some, e1, Option.bind_some, wrap_succ (by have := f2.good.rt.nts; omega)]
      rfl
    · right
      have hre : r = v.2.2.1.length := by have := f2.rdl; omega
      subst hre
      rw [ltI', cond_false]
      exact ⟨_, rfl, o2, rfl, f2⟩) (x := (rd, o)) f
  have q2 : loopO step3 ((rd : Int), o) = some (.inl o') := q2
  show (loopO step3 ((rd : Int), o)).bind _ = _
  rw [q2, Option.bind_some]
  simp only [eX]
  exact fol_end f'
end Go.AI
