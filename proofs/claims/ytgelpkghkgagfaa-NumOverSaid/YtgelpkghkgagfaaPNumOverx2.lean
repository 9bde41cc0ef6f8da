-- PRINTED BY print.sh 35421559b90ae4d0a3588c463048766b98c2df88dd9212a6774a882060cdf62d: not written by this session
import Derived.Test.YtgelpkghkgagfaaPNumOverx0
import Derived.Test.YtgelpkghkgagfaaPNumOverx1
namespace Go.Proofs.Ytgelpkghkgagfaa.PNumOver
open Go.RowKit Go.Proofs.YtgelpkghkgagfaaW.PrintWords Go.Proofs.YtgelpkghkgagfaaW.PrintLast Go.Proofs.YtgelpkghkgagfaaW.PrintMore
attribute [local go_sem] max2_int min2_int max_two min_two max_three min_three max_four min_four   -- for this text's walks alone
set_option linter.unusedVariables false
set_option linter.unusedSimpArgs false

/-! ### snafflelaw01_NumOver: function 12 -/
def snafflelaw01_NumOver.j0 : Nat → Int → Int → Int → Bool → Option (Bool)
  | 0, _, _, _, _ => none
  | k + 1, x0, x1, x6, x7 => if (x7 != (x6 == 3)) = true then (some false) else ((num_Mul.f k x0 x1).bind fun bt127 => (if bt127.2 = 0 then (if x1 = 0 then (some (bt127.1 == 0)) else (if x1 = (-1) then ((num_Sub.f 0 x0).bind fun bt129 => (if bt129.2 = 0 then (some (bt129.1 == bt127.1)) else (some false))) else (if (wrap64 (Int.tdiv bt127.1 x1)) = x0 then (some ((Int.tmod bt127.1 x1) == 0)) else (some false)))) else (if x0 = 0 then (some false) else (if x1 = 0 then (some false) else (if x0 = 1 then (some false) else (some (x1 != 1)))))))
def snafflelaw01_NumOver.f (k : Nat) (a0 : Int) (a1 : Int) : Option (Bool) := (snafflelaw01_awake.f k).bind fun t124 => (if t124 = true then ((num_Add.f a0 a1).bind fun bt125 => (if a0 ≥ 0 then (if a1 ≥ 0 then (if (wrap64 (9223372036854775807 - a0)) < a1 then (snafflelaw01_NumOver.j0 k a0 a1 bt125.2 true) else (if a0 < 0 then (if a1 < 0 then (snafflelaw01_NumOver.j0 k a0 a1 bt125.2 (decide ((wrap64 ((-9223372036854775808) - a0)) > a1))) else (snafflelaw01_NumOver.j0 k a0 a1 bt125.2 false)) else (snafflelaw01_NumOver.j0 k a0 a1 bt125.2 false))) else (if a0 < 0 then (if a1 < 0 then (snafflelaw01_NumOver.j0 k a0 a1 bt125.2 (decide ((wrap64 ((-9223372036854775808) - a0)) > a1))) else (snafflelaw01_NumOver.j0 k a0 a1 bt125.2 false)) else (snafflelaw01_NumOver.j0 k a0 a1 bt125.2 false))) else (if a0 < 0 then (if a1 < 0 then (snafflelaw01_NumOver.j0 k a0 a1 bt125.2 (decide ((wrap64 ((-9223372036854775808) - a0)) > a1))) else (snafflelaw01_NumOver.j0 k a0 a1 bt125.2 false)) else (snafflelaw01_NumOver.j0 k a0 a1 bt125.2 false)))) else (some false))
theorem snafflelaw01_NumOver.mono_l : ∀ k, (∀ y0 y1 y2 y3, LeO (snafflelaw01_NumOver.j0 k y0 y1 y2 y3) (snafflelaw01_NumOver.j0 (k + 1) y0 y1 y2 y3))
  | 0 => fun _ _ _ _ r h => by simp [snafflelaw01_NumOver.j0] at h
  | k + 1 => by
    have ih0 := snafflelaw01_NumOver.mono_l k
    · intro y0 y1 y2 y3
      unfold snafflelaw01_NumOver.j0
      repeat' first
      | (with_reducible exact ih0 _ _ _ _)
      | (with_reducible exact num_Mul.mono _ _ _)
      | (with_reducible exact snafflelaw01_awake.mono _)
      | (with_reducible exact LeO.refl _)
      | (with_reducible exact LeO.none _)
      | (with_reducible refine LeO.ite ?_ ?_)
      | (with_reducible refine LeO.bind ?_ (fun _ => ?_))
      | exact ih0 _ _ _ _
      | exact num_Mul.mono _ _ _
      | exact snafflelaw01_awake.mono _
      | exact LeO.none _
      | refine LeO.ite ?_ ?_
      | refine LeO.bind ?_ (fun _ => ?_)
theorem snafflelaw01_NumOver.mono : ∀ a0 a1 k, LeO (snafflelaw01_NumOver.f k a0 a1) (snafflelaw01_NumOver.f (k + 1) a0 a1) := by
  intro a0 a1 k
  have ih0 := snafflelaw01_NumOver.mono_l k
  unfold snafflelaw01_NumOver.f
  repeat' first
      | (with_reducible exact ih0 _ _ _ _)
      | (with_reducible exact num_Mul.mono _ _ _)
      | (with_reducible exact snafflelaw01_awake.mono _)
      | (with_reducible exact LeO.refl _)
      | (with_reducible exact LeO.none _)
      | (with_reducible refine LeO.ite ?_ ?_)
      | (with_reducible refine LeO.bind ?_ (fun _ => ?_))
      | exact ih0 _ _ _ _
      | exact num_Mul.mono _ _ _
      | exact snafflelaw01_awake.mono _
      | exact LeO.none _
      | refine LeO.ite ?_ ?_
      | refine LeO.bind ?_ (fun _ => ?_)
set_option maxHeartbeats 8000000 in
set_option maxRecDepth 100000 in
theorem snafflelaw01_NumOver.calls (k : Nat) (a0 : Int) (a1 : Int) (r : Bool) (w : World) (h : snafflelaw01_NumOver.f k a0 a1 = some r) :
    Calls Try.prog 12 #[.int .i64 a0, .int .i64 a1] w fun e w' => e = .returned (.bool r) ∧ Below w.heap.size w w' := by
  have HB := Aside0.mk (Below.refl w.heap.size w)
  have H : ((snafflelaw01_awake.f k).bind fun t124 => (if t124 = true then ((num_Add.f a0 a1).bind fun bt125 => (if a0 ≥ 0 then (if a1 ≥ 0 then (if (wrap64 (9223372036854775807 - a0)) < a1 then (snafflelaw01_NumOver.j0 k a0 a1 bt125.2 true) else (if a0 < 0 then (if a1 < 0 then (snafflelaw01_NumOver.j0 k a0 a1 bt125.2 (decide ((wrap64 ((-9223372036854775808) - a0)) > a1))) else (snafflelaw01_NumOver.j0 k a0 a1 bt125.2 false)) else (snafflelaw01_NumOver.j0 k a0 a1 bt125.2 false))) else (if a0 < 0 then (if a1 < 0 then (snafflelaw01_NumOver.j0 k a0 a1 bt125.2 (decide ((wrap64 ((-9223372036854775808) - a0)) > a1))) else (snafflelaw01_NumOver.j0 k a0 a1 bt125.2 false)) else (snafflelaw01_NumOver.j0 k a0 a1 bt125.2 false))) else (if a0 < 0 then (if a1 < 0 then (snafflelaw01_NumOver.j0 k a0 a1 bt125.2 (decide ((wrap64 ((-9223372036854775808) - a0)) > a1))) else (snafflelaw01_NumOver.j0 k a0 a1 bt125.2 false)) else (snafflelaw01_NumOver.j0 k a0 a1 bt125.2 false)))) else (some false))) = some r := h
  clear h
  replace H := Option.bind_eq_some_iff.mp H
  obtain ⟨t124, A30, H⟩ := H
  replace H : (if t124 = true then ((num_Add.f a0 a1).bind fun bt125 => (if a0 ≥ 0 then (if a1 ≥ 0 then (if (wrap64 (9223372036854775807 - a0)) < a1 then (snafflelaw01_NumOver.j0 k a0 a1 bt125.2 true) else (if a0 < 0 then (if a1 < 0 then (snafflelaw01_NumOver.j0 k a0 a1 bt125.2 (decide ((wrap64 ((-9223372036854775808) - a0)) > a1))) else (snafflelaw01_NumOver.j0 k a0 a1 bt125.2 false)) else (snafflelaw01_NumOver.j0 k a0 a1 bt125.2 false))) else (if a0 < 0 then (if a1 < 0 then (snafflelaw01_NumOver.j0 k a0 a1 bt125.2 (decide ((wrap64 ((-9223372036854775808) - a0)) > a1))) else (snafflelaw01_NumOver.j0 k a0 a1 bt125.2 false)) else (snafflelaw01_NumOver.j0 k a0 a1 bt125.2 false))) else (if a0 < 0 then (if a1 < 0 then (snafflelaw01_NumOver.j0 k a0 a1 bt125.2 (decide ((wrap64 ((-9223372036854775808) - a0)) > a1))) else (snafflelaw01_NumOver.j0 k a0 a1 bt125.2 false)) else (snafflelaw01_NumOver.j0 k a0 a1 bt125.2 false)))) else (some false)) = some r := H
  have A3 := Aside0.mk A30
  clear A30
  by_cases c4 : t124 = true
  · subst c4
    have H1 : ((num_Add.f a0 a1).bind fun bt125 => (if a0 ≥ 0 then (if a1 ≥ 0 then (if (wrap64 (9223372036854775807 - a0)) < a1 then (snafflelaw01_NumOver.j0 k a0 a1 bt125.2 true) else (if a0 < 0 then (if a1 < 0 then (snafflelaw01_NumOver.j0 k a0 a1 bt125.2 (decide ((wrap64 ((-9223372036854775808) - a0)) > a1))) else (snafflelaw01_NumOver.j0 k a0 a1 bt125.2 false)) else (snafflelaw01_NumOver.j0 k a0 a1 bt125.2 false))) else (if a0 < 0 then (if a1 < 0 then (snafflelaw01_NumOver.j0 k a0 a1 bt125.2 (decide ((wrap64 ((-9223372036854775808) - a0)) > a1))) else (snafflelaw01_NumOver.j0 k a0 a1 bt125.2 false)) else (snafflelaw01_NumOver.j0 k a0 a1 bt125.2 false))) else (if a0 < 0 then (if a1 < 0 then (snafflelaw01_NumOver.j0 k a0 a1 bt125.2 (decide ((wrap64 ((-9223372036854775808) - a0)) > a1))) else (snafflelaw01_NumOver.j0 k a0 a1 bt125.2 false)) else (snafflelaw01_NumOver.j0 k a0 a1 bt125.2 false)))) = some r := by rw [if_pos rfl] at H; exact H
    clear H
    have H := H1
    clear H1
    replace H := Option.bind_eq_some_iff.mp H
    obtain ⟨⟨t125, t126⟩, A50, H⟩ := H
    replace H : (if a0 ≥ 0 then (if a1 ≥ 0 then (if (wrap64 (9223372036854775807 - a0)) < a1 then (snafflelaw01_NumOver.j0 k a0 a1 t126 true) else (if a0 < 0 then (if a1 < 0 then (snafflelaw01_NumOver.j0 k a0 a1 t126 (decide ((wrap64 ((-9223372036854775808) - a0)) > a1))) else (snafflelaw01_NumOver.j0 k a0 a1 t126 false)) else (snafflelaw01_NumOver.j0 k a0 a1 t126 false))) else (if a0 < 0 then (if a1 < 0 then (snafflelaw01_NumOver.j0 k a0 a1 t126 (decide ((wrap64 ((-9223372036854775808) - a0)) > a1))) else (snafflelaw01_NumOver.j0 k a0 a1 t126 false)) else (snafflelaw01_NumOver.j0 k a0 a1 t126 false))) else (if a0 < 0 then (if a1 < 0 then (snafflelaw01_NumOver.j0 k a0 a1 t126 (decide ((wrap64 ((-9223372036854775808) - a0)) > a1))) else (snafflelaw01_NumOver.j0 k a0 a1 t126 false)) else (snafflelaw01_NumOver.j0 k a0 a1 t126 false))) = some r := H
    have A5 := Aside0.mk A50
    clear A50
    have HC6 := Aside0.mk H
    clear H
    go_enter Try.func12, Try.ntmps12
    go_upto_region 4 with (first | ((with_reducible refine gate_callee (f := 31) rfl ?_); refine goesL_ (some 12) rfl rfl Try.func31 (by kernel_rfl) rfl #[] rfl (by (try simp only [List.map_toArray, List.map_cons, List.map_nil]); first | done | rfl | (simp only [List.length_drop, List.length_take]; rfl)) ?_; (with_reducible refine (snafflelaw01_awake.calls k  true _ A3.out).mono ?_); rintro e w7 ⟨rfl, hb⟩; refine ⟨_, rfl, ?_⟩; have n0_ := Aside0.mk (below_step (by repeat (first | (with_reducible first | exact HB.out | apply below_alloc | apply pw_below_drewN | apply below_drew1) | exact HB.out)) hb); clear HB; have HB := n0_; clear n0_; (try clear hb); (try clear hb2); (try clear hk); (try clear hi)) | ((with_reducible refine gate_callee (f := 32) rfl ?_); refine goesL_ (some 17) rfl rfl Try.func32 (by kernel_rfl) rfl #[.int .i64 a0, .int .i64 a1] rfl (by (try simp only [List.map_toArray, List.map_cons, List.map_nil]); first | done | rfl | (simp only [List.length_drop, List.length_take]; rfl)) ?_; (with_reducible refine (num_Add.calls a0 a1 t125 t126 _ A5.out).mono ?_); rintro e w' ⟨rfl, ⟨nd, rfl⟩⟩; refine ⟨_, rfl, ?_⟩))
    (try simp only [Act.put, List.setIfInBounds_toArray, List.set_cons_zero, List.set_cons_succ])
    go_cut [7] (fun v7 wc => ∃ (kq : Nat) (x7_5 : Bool), v7 = .bool x7_5 ∧ Aside0 (snafflelaw01_NumOver.j0 kq a0 a1 t126 x7_5 = some r) ∧ Aside0 (kq ≤ k) ∧ Aside0 (Below w.heap.size w wc))
    case first =>
      have H := HC6.out
      clear HC6
      by_cases c8 : a0 ≥ 0
      · rw [if_pos c8] at H
        have c8b0 : decide (0 ≤ a0) = true := decide_eq_true c8
        clear c8
        (first | rw [c8b0] | (simp only [i64_w, i32_w]; rw [c8b0]) | skip)
        by_cases c9 : a1 ≥ 0
        · rw [if_pos c9] at H
          have c9b0 : decide (0 ≤ a1) = true := decide_eq_true c9
          clear c9
          by_cases c10 : (wrap64 (9223372036854775807 - a0)) < a1
          · rw [if_pos c10] at H
            have c10b0 : decide ((wrap64 (9223372036854775807 - a0)) < a1) = true := decide_eq_true c10
            clear c10
            have H' := Aside0.mk H
            clear H
            go_wp2
            go_meet
            case rel => exact ⟨_, (true), (by first | rfl | (simp; done) | (simp [*]; done)), H', ⟨by first | omega | exact Nat.le_refl _⟩, ⟨by repeat (first | (with_reducible first | exact HB.out | apply below_alloc | apply pw_below_drewN | apply below_drew1) | exact HB.out)⟩⟩
          · rw [if_neg c10] at H
            have c10b0 : decide ((wrap64 (9223372036854775807 - a0)) < a1) = false := decide_eq_false c10
            clear c10
            by_cases c11 : a0 < 0
            · rw [if_pos c11] at H
              have c11b0 : decide (a0 < 0) = true := decide_eq_true c11
              clear c11
              by_cases c12 : a1 < 0
              · rw [if_pos c12] at H
                have c12b0 : decide (a1 < 0) = true := decide_eq_true c12
                clear c12
                have H' := Aside0.mk H
                clear H
                go_wp2
                go_meet
                case rel => exact ⟨_, (decide ((wrap64 ((-9223372036854775808) - a0)) > a1)), (by first | rfl | (simp; done) | (simp [*]; done)), H', ⟨by first | omega | exact Nat.le_refl _⟩, ⟨by repeat (first | (with_reducible first | exact HB.out | apply below_alloc | apply pw_below_drewN | apply below_drew1) | exact HB.out)⟩⟩
              · rw [if_neg c12] at H
                have c12b0 : decide (a1 < 0) = false := decide_eq_false c12
                clear c12
                have H' := Aside0.mk H
                clear H
                go_wp2
                go_meet
                case rel => exact ⟨_, (false), (by first | rfl | (simp; done) | (simp [*]; done)), H', ⟨by first | omega | exact Nat.le_refl _⟩, ⟨by repeat (first | (with_reducible first | exact HB.out | apply below_alloc | apply pw_below_drewN | apply below_drew1) | exact HB.out)⟩⟩
            · rw [if_neg c11] at H
              have c11b0 : decide (a0 < 0) = false := decide_eq_false c11
              clear c11
              have H' := Aside0.mk H
              clear H
              go_wp2
              go_meet
              case rel => exact ⟨_, (false), (by first | rfl | (simp; done) | (simp [*]; done)), H', ⟨by first | omega | exact Nat.le_refl _⟩, ⟨by repeat (first | (with_reducible first | exact HB.out | apply below_alloc | apply pw_below_drewN | apply below_drew1) | exact HB.out)⟩⟩
        · rw [if_neg c9] at H
          have c9b0 : decide (0 ≤ a1) = false := decide_eq_false c9
          clear c9
          by_cases c13 : a0 < 0
          · rw [if_pos c13] at H
            have c13b0 : decide (a0 < 0) = true := decide_eq_true c13
            clear c13
            by_cases c14 : a1 < 0
            · rw [if_pos c14] at H
              have c14b0 : decide (a1 < 0) = true := decide_eq_true c14
              clear c14
              have H' := Aside0.mk H
              clear H
              go_wp2
              go_meet
              case rel => exact ⟨_, (decide ((wrap64 ((-9223372036854775808) - a0)) > a1)), (by first | rfl | (simp; done) | (simp [*]; done)), H', ⟨by first | omega | exact Nat.le_refl _⟩, ⟨by repeat (first | (with_reducible first | exact HB.out | apply below_alloc | apply pw_below_drewN | apply below_drew1) | exact HB.out)⟩⟩
            · rw [if_neg c14] at H
              have c14b0 : decide (a1 < 0) = false := decide_eq_false c14
              clear c14
              have H' := Aside0.mk H
              clear H
              go_wp2
              go_meet
              case rel => exact ⟨_, (false), (by first | rfl | (simp; done) | (simp [*]; done)), H', ⟨by first | omega | exact Nat.le_refl _⟩, ⟨by repeat (first | (with_reducible first | exact HB.out | apply below_alloc | apply pw_below_drewN | apply below_drew1) | exact HB.out)⟩⟩
          · rw [if_neg c13] at H
            have c13b0 : decide (a0 < 0) = false := decide_eq_false c13
            clear c13
            have H' := Aside0.mk H
            clear H
            go_wp2
            go_meet
            case rel => exact ⟨_, (false), (by first | rfl | (simp; done) | (simp [*]; done)), H', ⟨by first | omega | exact Nat.le_refl _⟩, ⟨by repeat (first | (with_reducible first | exact HB.out | apply below_alloc | apply pw_below_drewN | apply below_drew1) | exact HB.out)⟩⟩
      · rw [if_neg c8] at H
        have c8b0 : decide (0 ≤ a0) = false := decide_eq_false c8
        clear c8
        (first | rw [c8b0] | (simp only [i64_w, i32_w]; rw [c8b0]) | skip)
        by_cases c15 : a0 < 0
        · rw [if_pos c15] at H
          have c15b0 : decide (a0 < 0) = true := decide_eq_true c15
          clear c15
          by_cases c16 : a1 < 0
          · rw [if_pos c16] at H
            have c16b0 : decide (a1 < 0) = true := decide_eq_true c16
            clear c16
            have H' := Aside0.mk H
            clear H
            go_wp2
            go_meet
            case rel => exact ⟨_, (decide ((wrap64 ((-9223372036854775808) - a0)) > a1)), (by first | rfl | (simp; done) | (simp [*]; done)), H', ⟨by first | omega | exact Nat.le_refl _⟩, ⟨by repeat (first | (with_reducible first | exact HB.out | apply below_alloc | apply pw_below_drewN | apply below_drew1) | exact HB.out)⟩⟩
          · rw [if_neg c16] at H
            have c16b0 : decide (a1 < 0) = false := decide_eq_false c16
            clear c16
            have H' := Aside0.mk H
            clear H
            go_wp2
            go_meet
            case rel => exact ⟨_, (false), (by first | rfl | (simp; done) | (simp [*]; done)), H', ⟨by first | omega | exact Nat.le_refl _⟩, ⟨by repeat (first | (with_reducible first | exact HB.out | apply below_alloc | apply pw_below_drewN | apply below_drew1) | exact HB.out)⟩⟩
        · rw [if_neg c15] at H
          have c15b0 : decide (a0 < 0) = false := decide_eq_false c15
          clear c15
          have H' := Aside0.mk H
          clear H
          go_wp2
          go_meet
          case rel => exact ⟨_, (false), (by first | rfl | (simp; done) | (simp [*]; done)), H', ⟨by first | omega | exact Nat.le_refl _⟩, ⟨by repeat (first | (with_reducible first | exact HB.out | apply below_alloc | apply pw_below_drewN | apply below_drew1) | exact HB.out)⟩⟩
    case rest =>
      clear HC6
      try clear c1
      try clear p2
      try clear c3
      try clear c4
      try clear p6
      try clear c8
      try clear c8b0
      try clear c9
      try clear c9b0
      try clear c10
      try clear c10b0
      try clear c11
      try clear c11b0
      try clear c12
      try clear c12b0
      try clear c13
      try clear c13b0
      try clear c14
      try clear c14b0
      try clear c15
      try clear c15b0
      try clear c16
      try clear c16b0
      obtain ⟨kq, x7_5, rfl, HA, HJ5, HB⟩ := hcut
      cases kq with
      | zero => exact absurd HA.out (by simp [snafflelaw01_NumOver.j0])
      | succ kj5 =>
        have H := HA.out
        clear HA
        simp only [snafflelaw01_NumOver.j0] at H
        by_cases c17 : (x7_5 != (t126 == 3)) = true
        · rw [if_pos c17] at H
          have c17b0 : (x7_5 != (t126 == 3)) = true := c17
          (try (have c17b1 : decide (x7_5 = (t126 == 3)) = false := by simpa using c17))
          (try (have c17b2 : (x7_5 == (t126 == 3)) = false := by simpa using c17))
          (try (have c17b3 : ¬ (x7_5 = (t126 == 3)) := by simpa using c17))
          clear c17
          obtain rfl := Option.some.inj H
          go_wp2
          go_ret
          exact ⟨by first | rfl | (simp [errW_none, errW_some] <;> rfl) | (simp [*, errW_none, errW_some] <;> rfl), by repeat (first | (with_reducible first | exact HB.out | apply below_alloc | apply pw_below_drewN | apply below_drew1) | exact HB.out)⟩
        · rw [if_neg c17] at H
          have c17b0 : (x7_5 != (t126 == 3)) = false := by simpa using c17
          (try (have c17b1 : decide (x7_5 = (t126 == 3)) = true := by simpa using c17))
          (try (have c17b2 : (x7_5 == (t126 == 3)) = true := by simpa using c17))
          clear c17
          replace H := Option.bind_eq_some_iff.mp H
          obtain ⟨⟨t127, t128⟩, A180, H⟩ := H
          replace H : (if t128 = 0 then (if a1 = 0 then (some (t127 == 0)) else (if a1 = (-1) then ((num_Sub.f 0 a0).bind fun bt129 => (if bt129.2 = 0 then (some (bt129.1 == t127)) else (some false))) else (if (wrap64 (Int.tdiv t127 a1)) = a0 then (some ((Int.tmod t127 a1) == 0)) else (some false)))) else (if a0 = 0 then (some false) else (if a1 = 0 then (some false) else (if a0 = 1 then (some false) else (some (a1 != 1)))))) = some r := H
          have A18 := Aside0.mk A180
          clear A180
          by_cases c19 : t128 = 0
          · rw [if_pos c19] at H
            have c19b0 : (t128 == 0) = true := beq_iff_eq.mpr c19
            have c19b1 : (t128 != 0) = false := bne_eq_false_iff_eq.mpr c19
            clear c19
            by_cases c20 : a1 = 0
            · rw [if_pos c20] at H
              have c20b0 : (a1 == 0) = true := beq_iff_eq.mpr c20
              have c20b1 : (a1 != 0) = false := bne_eq_false_iff_eq.mpr c20
              clear c20
              obtain rfl := Option.some.inj H
              go_wp2_with (first | ((with_reducible refine gate_callee (f := 37) rfl ?_); refine goesL_ (some 53) rfl rfl Try.func37 (by kernel_rfl) rfl #[.int .i64 a0, .int .i64 a1] rfl (by (try simp only [List.map_toArray, List.map_cons, List.map_nil]); first | done | rfl | (simp only [List.length_drop, List.length_take]; rfl)) ?_; (with_reducible refine (num_Mul.calls kj5 a0 a1 t127 t128 _ A18.out).mono ?_); rintro e w' ⟨rfl, ⟨nd, rfl⟩⟩; refine ⟨_, rfl, ?_⟩))
              go_ret
              exact ⟨by first | rfl | (simp [errW_none, errW_some] <;> rfl) | (simp [*, errW_none, errW_some] <;> rfl), by repeat (first | (with_reducible first | exact HB.out | apply below_alloc | apply pw_below_drewN | apply below_drew1) | exact HB.out)⟩
            · rw [if_neg c20] at H
              have c20b0 : (a1 == 0) = false := beq_eq_false_iff_ne.mpr c20
              have c20b1 : (a1 != 0) = true := bne_iff_ne.mpr c20
              by_cases c21 : a1 = (-1)
              · rw [if_pos c21] at H
                have c21b0 : (a1 == (-1)) = true := beq_iff_eq.mpr c21
                have c21b1 : (a1 != (-1)) = false := bne_eq_false_iff_eq.mpr c21
                clear c21
                replace H := Option.bind_eq_some_iff.mp H
                obtain ⟨⟨t129, t130⟩, A220, H⟩ := H
                replace H : (if t130 = 0 then (some (t129 == t127)) else (some false)) = some r := H
                have A22 := Aside0.mk A220
                clear A220
                by_cases c23 : t130 = 0
                · rw [if_pos c23] at H
                  have c23b0 : (t130 == 0) = true := beq_iff_eq.mpr c23
                  have c23b1 : (t130 != 0) = false := bne_eq_false_iff_eq.mpr c23
                  clear c23
                  obtain rfl := Option.some.inj H
                  go_wp2_with (first | ((with_reducible refine gate_callee (f := 37) rfl ?_); refine goesL_ (some 53) rfl rfl Try.func37 (by kernel_rfl) rfl #[.int .i64 a0, .int .i64 a1] rfl (by (try simp only [List.map_toArray, List.map_cons, List.map_nil]); first | done | rfl | (simp only [List.length_drop, List.length_take]; rfl)) ?_; (with_reducible refine (num_Mul.calls kj5 a0 a1 t127 t128 _ A18.out).mono ?_); rintro e w' ⟨rfl, ⟨nd, rfl⟩⟩; refine ⟨_, rfl, ?_⟩) | ((with_reducible refine gate_callee (f := 35) rfl ?_); refine goesL_ (some 80) rfl rfl Try.func35 (by kernel_rfl) rfl #[.int .i64 0, .int .i64 a0] rfl (by (try simp only [List.map_toArray, List.map_cons, List.map_nil]); first | done | rfl | (simp only [List.length_drop, List.length_take]; rfl)) ?_; (with_reducible refine (num_Sub.calls 0 a0 t129 t130 _ A22.out).mono ?_); rintro e w' ⟨rfl, ⟨nd, rfl⟩⟩; refine ⟨_, rfl, ?_⟩))
                  go_ret
                  exact ⟨by first | rfl | (simp [errW_none, errW_some] <;> rfl) | (simp [*, errW_none, errW_some] <;> rfl), by repeat (first | (with_reducible first | exact HB.out | apply below_alloc | apply pw_below_drewN | apply below_drew1) | exact HB.out)⟩
                · rw [if_neg c23] at H
                  have c23b0 : (t130 == 0) = false := beq_eq_false_iff_ne.mpr c23
                  have c23b1 : (t130 != 0) = true := bne_iff_ne.mpr c23
                  obtain rfl := Option.some.inj H
                  go_wp2_with (first | ((with_reducible refine gate_callee (f := 37) rfl ?_); refine goesL_ (some 53) rfl rfl Try.func37 (by kernel_rfl) rfl #[.int .i64 a0, .int .i64 a1] rfl (by (try simp only [List.map_toArray, List.map_cons, List.map_nil]); first | done | rfl | (simp only [List.length_drop, List.length_take]; rfl)) ?_; (with_reducible refine (num_Mul.calls kj5 a0 a1 t127 t128 _ A18.out).mono ?_); rintro e w' ⟨rfl, ⟨nd, rfl⟩⟩; refine ⟨_, rfl, ?_⟩) | ((with_reducible refine gate_callee (f := 35) rfl ?_); refine goesL_ (some 80) rfl rfl Try.func35 (by kernel_rfl) rfl #[.int .i64 0, .int .i64 a0] rfl (by (try simp only [List.map_toArray, List.map_cons, List.map_nil]); first | done | rfl | (simp only [List.length_drop, List.length_take]; rfl)) ?_; (with_reducible refine (num_Sub.calls 0 a0 t129 t130 _ A22.out).mono ?_); rintro e w' ⟨rfl, ⟨nd, rfl⟩⟩; refine ⟨_, rfl, ?_⟩))
                  go_ret
                  exact ⟨by first | rfl | (simp [errW_none, errW_some] <;> rfl) | (simp [*, errW_none, errW_some] <;> rfl), by repeat (first | (with_reducible first | exact HB.out | apply below_alloc | apply pw_below_drewN | apply below_drew1) | exact HB.out)⟩
              · rw [if_neg c21] at H
                have c21b0 : (a1 == (-1)) = false := beq_eq_false_iff_ne.mpr c21
                have c21b1 : (a1 != (-1)) = true := bne_iff_ne.mpr c21
                by_cases c24 : (wrap64 (Int.tdiv t127 a1)) = a0
                · rw [if_pos c24] at H
                  have c24b0 : ((wrap64 (Int.tdiv t127 a1)) == a0) = true := beq_iff_eq.mpr c24
                  have c24b1 : ((wrap64 (Int.tdiv t127 a1)) != a0) = false := bne_eq_false_iff_eq.mpr c24
                  clear c24
                  obtain rfl := Option.some.inj H
                  go_wp2_with (first | ((with_reducible refine gate_callee (f := 37) rfl ?_); refine goesL_ (some 53) rfl rfl Try.func37 (by kernel_rfl) rfl #[.int .i64 a0, .int .i64 a1] rfl (by (try simp only [List.map_toArray, List.map_cons, List.map_nil]); first | done | rfl | (simp only [List.length_drop, List.length_take]; rfl)) ?_; (with_reducible refine (num_Mul.calls kj5 a0 a1 t127 t128 _ A18.out).mono ?_); rintro e w' ⟨rfl, ⟨nd, rfl⟩⟩; refine ⟨_, rfl, ?_⟩))
                  go_ret
                  exact ⟨by first | rfl | (simp [errW_none, errW_some] <;> rfl) | (simp [*, errW_none, errW_some] <;> rfl), by repeat (first | (with_reducible first | exact HB.out | apply below_alloc | apply pw_below_drewN | apply below_drew1) | exact HB.out)⟩
                · rw [if_neg c24] at H
                  have c24b0 : ((wrap64 (Int.tdiv t127 a1)) == a0) = false := beq_eq_false_iff_ne.mpr c24
                  have c24b1 : ((wrap64 (Int.tdiv t127 a1)) != a0) = true := bne_iff_ne.mpr c24
                  obtain rfl := Option.some.inj H
                  go_wp2_with (first | ((with_reducible refine gate_callee (f := 37) rfl ?_); refine goesL_ (some 53) rfl rfl Try.func37 (by kernel_rfl) rfl #[.int .i64 a0, .int .i64 a1] rfl (by (try simp only [List.map_toArray, List.map_cons, List.map_nil]); first | done | rfl | (simp only [List.length_drop, List.length_take]; rfl)) ?_; (with_reducible refine (num_Mul.calls kj5 a0 a1 t127 t128 _ A18.out).mono ?_); rintro e w' ⟨rfl, ⟨nd, rfl⟩⟩; refine ⟨_, rfl, ?_⟩))
                  go_ret
                  exact ⟨by first | rfl | (simp [errW_none, errW_some] <;> rfl) | (simp [*, errW_none, errW_some] <;> rfl), by repeat (first | (with_reducible first | exact HB.out | apply below_alloc | apply pw_below_drewN | apply below_drew1) | exact HB.out)⟩
          · rw [if_neg c19] at H
            have c19b0 : (t128 == 0) = false := beq_eq_false_iff_ne.mpr c19
            have c19b1 : (t128 != 0) = true := bne_iff_ne.mpr c19
            by_cases c25 : a0 = 0
            · rw [if_pos c25] at H
              have c25b0 : (a0 == 0) = true := beq_iff_eq.mpr c25
              have c25b1 : (a0 != 0) = false := bne_eq_false_iff_eq.mpr c25
              clear c25
              obtain rfl := Option.some.inj H
              go_wp2_with (first | ((with_reducible refine gate_callee (f := 37) rfl ?_); refine goesL_ (some 53) rfl rfl Try.func37 (by kernel_rfl) rfl #[.int .i64 a0, .int .i64 a1] rfl (by (try simp only [List.map_toArray, List.map_cons, List.map_nil]); first | done | rfl | (simp only [List.length_drop, List.length_take]; rfl)) ?_; (with_reducible refine (num_Mul.calls kj5 a0 a1 t127 t128 _ A18.out).mono ?_); rintro e w' ⟨rfl, ⟨nd, rfl⟩⟩; refine ⟨_, rfl, ?_⟩))
              go_ret
              exact ⟨by first | rfl | (simp [errW_none, errW_some] <;> rfl) | (simp [*, errW_none, errW_some] <;> rfl), by repeat (first | (with_reducible first | exact HB.out | apply below_alloc | apply pw_below_drewN | apply below_drew1) | exact HB.out)⟩
            · rw [if_neg c25] at H
              have c25b0 : (a0 == 0) = false := beq_eq_false_iff_ne.mpr c25
              have c25b1 : (a0 != 0) = true := bne_iff_ne.mpr c25
              by_cases c26 : a1 = 0
              · rw [if_pos c26] at H
                have c26b0 : (a1 == 0) = true := beq_iff_eq.mpr c26
                have c26b1 : (a1 != 0) = false := bne_eq_false_iff_eq.mpr c26
                clear c26
                obtain rfl := Option.some.inj H
                go_wp2_with (first | ((with_reducible refine gate_callee (f := 37) rfl ?_); refine goesL_ (some 53) rfl rfl Try.func37 (by kernel_rfl) rfl #[.int .i64 a0, .int .i64 a1] rfl (by (try simp only [List.map_toArray, List.map_cons, List.map_nil]); first | done | rfl | (simp only [List.length_drop, List.length_take]; rfl)) ?_; (with_reducible refine (num_Mul.calls kj5 a0 a1 t127 t128 _ A18.out).mono ?_); rintro e w' ⟨rfl, ⟨nd, rfl⟩⟩; refine ⟨_, rfl, ?_⟩))
                go_ret
                exact ⟨by first | rfl | (simp [errW_none, errW_some] <;> rfl) | (simp [*, errW_none, errW_some] <;> rfl), by repeat (first | (with_reducible first | exact HB.out | apply below_alloc | apply pw_below_drewN | apply below_drew1) | exact HB.out)⟩
              · rw [if_neg c26] at H
                have c26b0 : (a1 == 0) = false := beq_eq_false_iff_ne.mpr c26
                have c26b1 : (a1 != 0) = true := bne_iff_ne.mpr c26
                by_cases c27 : a0 = 1
                · rw [if_pos c27] at H
                  have c27b0 : (a0 == 1) = true := beq_iff_eq.mpr c27
                  have c27b1 : (a0 != 1) = false := bne_eq_false_iff_eq.mpr c27
                  clear c27
                  obtain rfl := Option.some.inj H
                  go_wp2_with (first | ((with_reducible refine gate_callee (f := 37) rfl ?_); refine goesL_ (some 53) rfl rfl Try.func37 (by kernel_rfl) rfl #[.int .i64 a0, .int .i64 a1] rfl (by (try simp only [List.map_toArray, List.map_cons, List.map_nil]); first | done | rfl | (simp only [List.length_drop, List.length_take]; rfl)) ?_; (with_reducible refine (num_Mul.calls kj5 a0 a1 t127 t128 _ A18.out).mono ?_); rintro e w' ⟨rfl, ⟨nd, rfl⟩⟩; refine ⟨_, rfl, ?_⟩))
                  go_ret
                  exact ⟨by first | rfl | (simp [errW_none, errW_some] <;> rfl) | (simp [*, errW_none, errW_some] <;> rfl), by repeat (first | (with_reducible first | exact HB.out | apply below_alloc | apply pw_below_drewN | apply below_drew1) | exact HB.out)⟩
                · rw [if_neg c27] at H
                  have c27b0 : (a0 == 1) = false := beq_eq_false_iff_ne.mpr c27
                  have c27b1 : (a0 != 1) = true := bne_iff_ne.mpr c27
                  obtain rfl := Option.some.inj H
                  go_wp2_with (first | ((with_reducible refine gate_callee (f := 37) rfl ?_); refine goesL_ (some 53) rfl rfl Try.func37 (by kernel_rfl) rfl #[.int .i64 a0, .int .i64 a1] rfl (by (try simp only [List.map_toArray, List.map_cons, List.map_nil]); first | done | rfl | (simp only [List.length_drop, List.length_take]; rfl)) ?_; (with_reducible refine (num_Mul.calls kj5 a0 a1 t127 t128 _ A18.out).mono ?_); rintro e w' ⟨rfl, ⟨nd, rfl⟩⟩; refine ⟨_, rfl, ?_⟩))
                  go_ret
                  exact ⟨by first | rfl | (simp [errW_none, errW_some] <;> rfl) | (simp [*, errW_none, errW_some] <;> rfl), by repeat (first | (with_reducible first | exact HB.out | apply below_alloc | apply pw_below_drewN | apply below_drew1) | exact HB.out)⟩
  · replace c4 := Bool.eq_false_iff.mpr c4
    subst c4
    have H1 : (some false) = some r := by rw [if_neg (show ¬ (false = true) by decide)] at H; exact H
    clear H
    have H := H1
    clear H1
    obtain rfl := Option.some.inj H
    go_enter Try.func12, Try.ntmps12
    go_wp2_with (first | ((with_reducible refine gate_callee (f := 31) rfl ?_); refine goesL_ (some 12) rfl rfl Try.func31 (by kernel_rfl) rfl #[] rfl (by (try simp only [List.map_toArray, List.map_cons, List.map_nil]); first | done | rfl | (simp only [List.length_drop, List.length_take]; rfl)) ?_; (with_reducible refine (snafflelaw01_awake.calls k  false _ A3.out).mono ?_); rintro e w28 ⟨rfl, hb⟩; refine ⟨_, rfl, ?_⟩; have n0_ := Aside0.mk (below_step (by repeat (first | (with_reducible first | exact HB.out | apply below_alloc | apply pw_below_drewN | apply below_drew1) | exact HB.out)) hb); clear HB; have HB := n0_; clear n0_; (try clear hb); (try clear hb2); (try clear hk); (try clear hi)))
    go_ret
    exact ⟨by first | rfl | (simp [errW_none, errW_some] <;> rfl) | (simp [*, errW_none, errW_some] <;> rfl), by repeat (first | (with_reducible first | exact HB.out | apply below_alloc | apply pw_below_drewN | apply below_drew1) | exact HB.out)⟩

/-- THE ONE PURE STATEMENT of snafflelaw01_NumOver: yours. -/
def snafflelaw01_NumOver.Pure : Prop := ∀ (a0 : Int) (a1 : Int), (Lit.int .i64 a0).wf = true → (Lit.int .i64 a1).wf = true → ∃ k, snafflelaw01_NumOver.f k a0 a1 = some true
theorem snafflelaw01_NumOver.walk (P : snafflelaw01_NumOver.Pure) (a0 : Int) (a1 : Int) (w : World) (w0 : (Lit.int .i64 a0).wf = true) (w1 : (Lit.int .i64 a1).wf = true) :
    Calls Try.prog 12 #[.int .i64 a0, .int .i64 a1] w fun e w' => e = .returned (.bool true) ∧ Below w.heap.size w w' := by
  obtain ⟨k, h⟩ := P a0 a1 w0 w1
  refine (snafflelaw01_NumOver.calls k a0 a1 true w h).mono ?_
  rintro e w' ⟨rfl, hd⟩
  exact ⟨rfl, hd⟩

end Go.Proofs.Ytgelpkghkgagfaa.PNumOver
