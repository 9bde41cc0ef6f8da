-- PRINTED BY print.sh 35421559b90ae4d0a3588c463048766b98c2df88dd9212a6774a882060cdf62d: not written by this session
import Derived.Test.YtgelpkghkgagfaaPNumRightx0
import Derived.Test.YtgelpkghkgagfaaPNumRightx1
namespace Go.Proofs.Ytgelpkghkgagfaa.PNumRight
open Go.RowKit Go.Proofs.YtgelpkghkgagfaaW.PrintWords Go.Proofs.YtgelpkghkgagfaaW.PrintLast Go.Proofs.YtgelpkghkgagfaaW.PrintMore
attribute [local go_sem] max2_int min2_int max_two min_two max_three min_three max_four min_four   -- for this text's walks alone
set_option linter.unusedVariables false
set_option linter.unusedSimpArgs false

/-! ### snaffleref01_whole: function 47 -/
def snaffleref01_whole.f (a0 : Int) : Option (Int) := if a0 < 0 then (some (IntKind.u64.wrap ((IntKind.u64.wrap (wrap64 (-(wrap64 (a0 + 1))))) + 1))) else (some (IntKind.u64.wrap (a0)))
set_option maxHeartbeats 8000000 in
set_option maxRecDepth 100000 in
theorem snaffleref01_whole.calls (a0 : Int) (r : Int) (w : World) (h : snaffleref01_whole.f a0 = some r) :
    Calls Try.prog 47 #[.int .i64 a0] w fun e w' => e = .returned (.int .u64 r) ∧ Drawn0 w w' := by
  have H : (if a0 < 0 then (some (IntKind.u64.wrap ((IntKind.u64.wrap (wrap64 (-(wrap64 (a0 + 1))))) + 1))) else (some (IntKind.u64.wrap (a0)))) = some r := h
  clear h
  by_cases c2 : a0 < 0
  · rw [if_pos c2] at H
    have c2b0 : decide (a0 < 0) = true := decide_eq_true c2
    clear c2
    obtain rfl := Option.some.inj H
    go_enter Try.func47, Try.ntmps47
    go_wp2
    go_ret
    exact ⟨by first | rfl | (simp; done) | (simp [*]; done), by repeat (first | exact Drawn0.refl _ | apply Drawn0.step)⟩
  · rw [if_neg c2] at H
    have c2b0 : decide (a0 < 0) = false := decide_eq_false c2
    clear c2
    obtain rfl := Option.some.inj H
    go_enter Try.func47, Try.ntmps47
    go_wp2
    go_ret
    exact ⟨by first | rfl | (simp; done) | (simp [*]; done), by repeat (first | exact Drawn0.refl _ | apply Drawn0.step)⟩

/-! ### snaffleref01_Mul: function 38 -/
mutual
def snaffleref01_Mul.j0 : Nat → Int → Int → Int → Int → Int → Int → Bool → Option (Int × Bool)
  | 0, _, _, _, _, _, _, _ => none
  | k + 1, x0, x1, x8, x9, x10, x11, x32 => if x32 = true then (some (0, false)) else (if (IntKind.u64.wrap ((IntKind.u64.wrap (x8 * x11)) + (IntKind.u64.wrap (x9 * x10)))) ≥ 4294967296 then (some (0, false)) else (if (IntKind.u64.wrap ((IntKind.u64.wrap ((IntKind.u64.wrap ((IntKind.u64.wrap (x8 * x11)) + (IntKind.u64.wrap (x9 * x10)))) * 4294967296)) + (IntKind.u64.wrap (x9 * x11)))) < (IntKind.u64.wrap (x9 * x11)) then (snaffleref01_Mul.j1 k x0 x1 (IntKind.u64.wrap ((IntKind.u64.wrap ((IntKind.u64.wrap ((IntKind.u64.wrap (x8 * x11)) + (IntKind.u64.wrap (x9 * x10)))) * 4294967296)) + (IntKind.u64.wrap (x9 * x11)))) true) else (snaffleref01_Mul.j1 k x0 x1 (IntKind.u64.wrap ((IntKind.u64.wrap ((IntKind.u64.wrap ((IntKind.u64.wrap (x8 * x11)) + (IntKind.u64.wrap (x9 * x10)))) * 4294967296)) + (IntKind.u64.wrap (x9 * x11)))) (decide ((IntKind.u64.wrap ((IntKind.u64.wrap ((IntKind.u64.wrap ((IntKind.u64.wrap (x8 * x11)) + (IntKind.u64.wrap (x9 * x10)))) * 4294967296)) + (IntKind.u64.wrap (x9 * x11)))) > 9223372036854775808)))))
def snaffleref01_Mul.j1 : Nat → Int → Int → Int → Bool → Option (Int × Bool)
  | 0, _, _, _, _ => none
  | k + 1, x0, x1, x14, x55 => if x55 = true then (some (0, false)) else (if ((decide (x0 < 0)) != (decide (x1 < 0))) = true then (some (wrap64 (IntKind.u64.wrap (-x14)), true)) else (some (wrap64 (x14), decide (x14 < 9223372036854775808))))
end
def snaffleref01_Mul.f (k : Nat) (a0 : Int) (a1 : Int) : Option (Int × Bool) := (snaffleref01_whole.f a0).bind fun t124 => ((snaffleref01_whole.f a1).bind fun t125 => (if (t124 / 4294967296) > 0 then (snaffleref01_Mul.j0 k a0 a1 (t124 / 4294967296) (Go.bits .and .u64 t124 4294967295) (t125 / 4294967296) (Go.bits .and .u64 t125 4294967295) (decide ((t125 / 4294967296) > 0))) else (snaffleref01_Mul.j0 k a0 a1 (t124 / 4294967296) (Go.bits .and .u64 t124 4294967295) (t125 / 4294967296) (Go.bits .and .u64 t125 4294967295) false)))
theorem snaffleref01_Mul.mono_l : ∀ k, (∀ y0 y1 y2 y3 y4 y5 y6, LeO (snaffleref01_Mul.j0 k y0 y1 y2 y3 y4 y5 y6) (snaffleref01_Mul.j0 (k + 1) y0 y1 y2 y3 y4 y5 y6)) ∧ (∀ y0 y1 y2 y3, LeO (snaffleref01_Mul.j1 k y0 y1 y2 y3) (snaffleref01_Mul.j1 (k + 1) y0 y1 y2 y3))
  | 0 => ⟨fun _ _ _ _ _ _ _ r h => by simp [snaffleref01_Mul.j0] at h, fun _ _ _ _ r h => by simp [snaffleref01_Mul.j1] at h⟩
  | k + 1 => by
    obtain ⟨ih0, ih1⟩ := snaffleref01_Mul.mono_l k
    refine ⟨?_, ?_⟩
    · intro y0 y1 y2 y3 y4 y5 y6
      unfold snaffleref01_Mul.j0
      repeat' first
      | (with_reducible exact ih0 _ _ _ _ _ _ _)
      | (with_reducible exact ih1 _ _ _ _)
      | (with_reducible exact LeO.refl _)
      | (with_reducible exact LeO.none _)
      | (with_reducible refine LeO.ite ?_ ?_)
      | (with_reducible refine LeO.bind ?_ (fun _ => ?_))
      | exact ih0 _ _ _ _ _ _ _
      | exact ih1 _ _ _ _
      | exact LeO.none _
      | refine LeO.ite ?_ ?_
      | refine LeO.bind ?_ (fun _ => ?_)
    · intro y0 y1 y2 y3
      unfold snaffleref01_Mul.j1
      repeat' first
      | (with_reducible exact ih0 _ _ _ _ _ _ _)
      | (with_reducible exact ih1 _ _ _ _)
      | (with_reducible exact LeO.refl _)
      | (with_reducible exact LeO.none _)
      | (with_reducible refine LeO.ite ?_ ?_)
      | (with_reducible refine LeO.bind ?_ (fun _ => ?_))
      | exact ih0 _ _ _ _ _ _ _
      | exact ih1 _ _ _ _
      | exact LeO.none _
      | refine LeO.ite ?_ ?_
      | refine LeO.bind ?_ (fun _ => ?_)
theorem snaffleref01_Mul.mono : ∀ a0 a1 k, LeO (snaffleref01_Mul.f k a0 a1) (snaffleref01_Mul.f (k + 1) a0 a1) := by
  intro a0 a1 k
  obtain ⟨ih0, ih1⟩ := snaffleref01_Mul.mono_l k
  unfold snaffleref01_Mul.f
  repeat' first
      | (with_reducible exact ih0 _ _ _ _ _ _ _)
      | (with_reducible exact ih1 _ _ _ _)
      | (with_reducible exact LeO.refl _)
      | (with_reducible exact LeO.none _)
      | (with_reducible refine LeO.ite ?_ ?_)
      | (with_reducible refine LeO.bind ?_ (fun _ => ?_))
      | exact ih0 _ _ _ _ _ _ _
      | exact ih1 _ _ _ _
      | exact LeO.none _
      | refine LeO.ite ?_ ?_
      | refine LeO.bind ?_ (fun _ => ?_)
set_option maxHeartbeats 8000000 in
set_option maxRecDepth 100000 in
theorem snaffleref01_Mul.calls (k : Nat) (a0 : Int) (a1 : Int) (r1 : Int) (r2 : Bool) (w : World) (h : snaffleref01_Mul.f k a0 a1 = some (r1, r2)) :
    Calls Try.prog 38 #[.int .i64 a0, .int .i64 a1] w fun e w' => e = .returned (.tuple #[.int .i64 r1, .bool r2]) ∧ Drawn0 w w' := by
  have H : ((snaffleref01_whole.f a0).bind fun t124 => ((snaffleref01_whole.f a1).bind fun t125 => (if (t124 / 4294967296) > 0 then (snaffleref01_Mul.j0 k a0 a1 (t124 / 4294967296) (Go.bits .and .u64 t124 4294967295) (t125 / 4294967296) (Go.bits .and .u64 t125 4294967295) (decide ((t125 / 4294967296) > 0))) else (snaffleref01_Mul.j0 k a0 a1 (t124 / 4294967296) (Go.bits .and .u64 t124 4294967295) (t125 / 4294967296) (Go.bits .and .u64 t125 4294967295) false)))) = some (r1, r2) := h
  clear h
  replace H := Option.bind_eq_some_iff.mp H
  obtain ⟨t124, A30, H⟩ := H
  replace H : ((snaffleref01_whole.f a1).bind fun t125 => (if (t124 / 4294967296) > 0 then (snaffleref01_Mul.j0 k a0 a1 (t124 / 4294967296) (Go.bits .and .u64 t124 4294967295) (t125 / 4294967296) (Go.bits .and .u64 t125 4294967295) (decide ((t125 / 4294967296) > 0))) else (snaffleref01_Mul.j0 k a0 a1 (t124 / 4294967296) (Go.bits .and .u64 t124 4294967295) (t125 / 4294967296) (Go.bits .and .u64 t125 4294967295) false))) = some (r1, r2) := H
  have A3 := Aside0.mk A30
  clear A30
  replace H := Option.bind_eq_some_iff.mp H
  obtain ⟨t125, A40, H⟩ := H
  replace H : (if (t124 / 4294967296) > 0 then (snaffleref01_Mul.j0 k a0 a1 (t124 / 4294967296) (Go.bits .and .u64 t124 4294967295) (t125 / 4294967296) (Go.bits .and .u64 t125 4294967295) (decide ((t125 / 4294967296) > 0))) else (snaffleref01_Mul.j0 k a0 a1 (t124 / 4294967296) (Go.bits .and .u64 t124 4294967295) (t125 / 4294967296) (Go.bits .and .u64 t125 4294967295) false)) = some (r1, r2) := H
  have A4 := Aside0.mk A40
  clear A40
  have HC5 := Aside0.mk H
  clear H
  go_enter Try.func38, Try.ntmps38
  go_upto_region 3 with (first | ((with_reducible refine gate_callee (f := 47) rfl ?_); refine goesL_ (some 16) rfl rfl Try.func47 (by kernel_rfl) rfl #[.int .i64 a0] rfl (by (try simp only [List.map_toArray, List.map_cons, List.map_nil]); first | done | rfl | (simp only [List.length_drop, List.length_take]; rfl)) ?_; (with_reducible refine (snaffleref01_whole.calls a0 t124 _ A3.out).mono ?_); rintro e w' ⟨rfl, ⟨nd, rfl⟩⟩; refine ⟨_, rfl, ?_⟩) | ((with_reducible refine gate_callee (f := 47) rfl ?_); refine goesL_ (some 18) rfl rfl Try.func47 (by kernel_rfl) rfl #[.int .i64 a1] rfl (by (try simp only [List.map_toArray, List.map_cons, List.map_nil]); first | done | rfl | (simp only [List.length_drop, List.length_take]; rfl)) ?_; (with_reducible refine (snaffleref01_whole.calls a1 t125 _ A4.out).mono ?_); rintro e w' ⟨rfl, ⟨nd, rfl⟩⟩; refine ⟨_, rfl, ?_⟩))
  (try simp only [Act.put, List.setIfInBounds_toArray, List.set_cons_zero, List.set_cons_succ])
  go_cut [32] (fun v32 wc => ∃ (kq : Nat) (x32_4 : Bool), v32 = .bool x32_4 ∧ Aside0 (snaffleref01_Mul.j0 kq a0 a1 (t124 / 4294967296) (Go.bits .and .u64 t124 4294967295) (t125 / 4294967296) (Go.bits .and .u64 t125 4294967295) x32_4 = some (r1, r2)) ∧ Aside0 (kq ≤ k) ∧ Drawn0 w wc)
  case first =>
    have H := HC5.out
    clear HC5
    by_cases c6 : (t124 / 4294967296) > 0
    · rw [if_pos c6] at H
      have c6b0 : decide (0 < (t124 / 4294967296)) = true := decide_eq_true c6
      clear c6
      (first | rw [c6b0] | (simp only [i64_w, i32_w]; rw [c6b0]) | skip)
      have H' := Aside0.mk H
      clear H
      go_wp2
      go_meet
      case rel => exact ⟨_, (decide ((t125 / 4294967296) > 0)), (by first | rfl | (simp; done) | (simp [*]; done)), H', ⟨by first | omega | exact Nat.le_refl _⟩, by repeat (first | exact Drawn0.refl _ | apply Drawn0.step)⟩
    · rw [if_neg c6] at H
      have c6b0 : decide (0 < (t124 / 4294967296)) = false := decide_eq_false c6
      clear c6
      (first | rw [c6b0] | (simp only [i64_w, i32_w]; rw [c6b0]) | skip)
      have H' := Aside0.mk H
      clear H
      go_wp2
      go_meet
      case rel => exact ⟨_, (false), (by first | rfl | (simp; done) | (simp [*]; done)), H', ⟨by first | omega | exact Nat.le_refl _⟩, by repeat (first | exact Drawn0.refl _ | apply Drawn0.step)⟩
  case rest =>
    clear HC5
    try clear p2
    try clear c3
    try clear c4
    try clear c6
    try clear c6b0
    obtain ⟨kq, x32_4, rfl, HA, HJ4, ⟨mc4, rfl⟩⟩ := hcut
    cases kq with
    | zero => exact absurd HA.out (by simp [snaffleref01_Mul.j0])
    | succ kj4 =>
      have H := HA.out
      clear HA
      simp only [snaffleref01_Mul.j0] at H
      by_cases c7 : x32_4 = true
      · subst c7
        have H1 : (some (0, false)) = some (r1, r2) := by rw [if_pos rfl] at H; exact H
        clear H
        have H := H1
        clear H1
        simp only [Option.some.injEq, Prod.mk.injEq] at H
        obtain ⟨rfl, rfl⟩ := H
        go_wp2
        go_ret2
        exact ⟨by first | rfl | (simp; done) | (simp [*]; done), by repeat (first | exact Drawn0.refl _ | apply Drawn0.step)⟩
      · replace c7 := Bool.eq_false_iff.mpr c7
        subst c7
        have H1 : (if (IntKind.u64.wrap ((IntKind.u64.wrap ((t124 / 4294967296) * (Go.bits .and .u64 t125 4294967295))) + (IntKind.u64.wrap ((Go.bits .and .u64 t124 4294967295) * (t125 / 4294967296))))) ≥ 4294967296 then (some (0, false)) else (if (IntKind.u64.wrap ((IntKind.u64.wrap ((IntKind.u64.wrap ((IntKind.u64.wrap ((t124 / 4294967296) * (Go.bits .and .u64 t125 4294967295))) + (IntKind.u64.wrap ((Go.bits .and .u64 t124 4294967295) * (t125 / 4294967296))))) * 4294967296)) + (IntKind.u64.wrap ((Go.bits .and .u64 t124 4294967295) * (Go.bits .and .u64 t125 4294967295))))) < (IntKind.u64.wrap ((Go.bits .and .u64 t124 4294967295) * (Go.bits .and .u64 t125 4294967295))) then (snaffleref01_Mul.j1 kj4 a0 a1 (IntKind.u64.wrap ((IntKind.u64.wrap ((IntKind.u64.wrap ((IntKind.u64.wrap ((t124 / 4294967296) * (Go.bits .and .u64 t125 4294967295))) + (IntKind.u64.wrap ((Go.bits .and .u64 t124 4294967295) * (t125 / 4294967296))))) * 4294967296)) + (IntKind.u64.wrap ((Go.bits .and .u64 t124 4294967295) * (Go.bits .and .u64 t125 4294967295))))) true) else (snaffleref01_Mul.j1 kj4 a0 a1 (IntKind.u64.wrap ((IntKind.u64.wrap ((IntKind.u64.wrap ((IntKind.u64.wrap ((t124 / 4294967296) * (Go.bits .and .u64 t125 4294967295))) + (IntKind.u64.wrap ((Go.bits .and .u64 t124 4294967295) * (t125 / 4294967296))))) * 4294967296)) + (IntKind.u64.wrap ((Go.bits .and .u64 t124 4294967295) * (Go.bits .and .u64 t125 4294967295))))) (decide ((IntKind.u64.wrap ((IntKind.u64.wrap ((IntKind.u64.wrap ((IntKind.u64.wrap ((t124 / 4294967296) * (Go.bits .and .u64 t125 4294967295))) + (IntKind.u64.wrap ((Go.bits .and .u64 t124 4294967295) * (t125 / 4294967296))))) * 4294967296)) + (IntKind.u64.wrap ((Go.bits .and .u64 t124 4294967295) * (Go.bits .and .u64 t125 4294967295))))) > 9223372036854775808))))) = some (r1, r2) := by rw [if_neg (show ¬ (false = true) by decide)] at H; exact H
        clear H
        have H := H1
        clear H1
        by_cases c8 : (IntKind.u64.wrap ((IntKind.u64.wrap ((t124 / 4294967296) * (Go.bits .and .u64 t125 4294967295))) + (IntKind.u64.wrap ((Go.bits .and .u64 t124 4294967295) * (t125 / 4294967296))))) ≥ 4294967296
        · rw [if_pos c8] at H
          have c8b0 : decide (4294967296 ≤ (IntKind.u64.wrap ((IntKind.u64.wrap ((t124 / 4294967296) * (Go.bits .and .u64 t125 4294967295))) + (IntKind.u64.wrap ((Go.bits .and .u64 t124 4294967295) * (t125 / 4294967296)))))) = true := decide_eq_true c8
          clear c8
          simp only [Option.some.injEq, Prod.mk.injEq] at H
          obtain ⟨rfl, rfl⟩ := H
          go_wp2
          go_ret2
          exact ⟨by first | rfl | (simp; done) | (simp [*]; done), by repeat (first | exact Drawn0.refl _ | apply Drawn0.step)⟩
        · rw [if_neg c8] at H
          have c8b0 : decide (4294967296 ≤ (IntKind.u64.wrap ((IntKind.u64.wrap ((t124 / 4294967296) * (Go.bits .and .u64 t125 4294967295))) + (IntKind.u64.wrap ((Go.bits .and .u64 t124 4294967295) * (t125 / 4294967296)))))) = false := decide_eq_false c8
          clear c8
          have HC9 := Aside0.mk H
          clear H
          go_upto_region 10 with (fail)
          go_cut [55] (fun v55 wc => ∃ (kq : Nat) (x55_8 : Bool), v55 = .bool x55_8 ∧ Aside0 (snaffleref01_Mul.j1 kq a0 a1 (IntKind.u64.wrap ((IntKind.u64.wrap ((IntKind.u64.wrap ((IntKind.u64.wrap ((t124 / 4294967296) * (Go.bits .and .u64 t125 4294967295))) + (IntKind.u64.wrap ((Go.bits .and .u64 t124 4294967295) * (t125 / 4294967296))))) * 4294967296)) + (IntKind.u64.wrap ((Go.bits .and .u64 t124 4294967295) * (Go.bits .and .u64 t125 4294967295))))) x55_8 = some (r1, r2)) ∧ Aside0 (kq ≤ kj4) ∧ Drawn0 w wc)
          case first =>
            have H := HC9.out
            clear HC9
            by_cases c10 : (IntKind.u64.wrap ((IntKind.u64.wrap ((IntKind.u64.wrap ((IntKind.u64.wrap ((t124 / 4294967296) * (Go.bits .and .u64 t125 4294967295))) + (IntKind.u64.wrap ((Go.bits .and .u64 t124 4294967295) * (t125 / 4294967296))))) * 4294967296)) + (IntKind.u64.wrap ((Go.bits .and .u64 t124 4294967295) * (Go.bits .and .u64 t125 4294967295))))) < (IntKind.u64.wrap ((Go.bits .and .u64 t124 4294967295) * (Go.bits .and .u64 t125 4294967295)))
            · rw [if_pos c10] at H
              have c10b0 : decide ((IntKind.u64.wrap ((IntKind.u64.wrap ((IntKind.u64.wrap ((IntKind.u64.wrap ((t124 / 4294967296) * (Go.bits .and .u64 t125 4294967295))) + (IntKind.u64.wrap ((Go.bits .and .u64 t124 4294967295) * (t125 / 4294967296))))) * 4294967296)) + (IntKind.u64.wrap ((Go.bits .and .u64 t124 4294967295) * (Go.bits .and .u64 t125 4294967295))))) < (IntKind.u64.wrap ((Go.bits .and .u64 t124 4294967295) * (Go.bits .and .u64 t125 4294967295)))) = true := decide_eq_true c10
              clear c10
              (first | rw [c10b0] | (simp only [i64_w, i32_w]; rw [c10b0]) | skip)
              have H' := Aside0.mk H
              clear H
              go_wp2
              go_meet
              case rel => exact ⟨_, (true), (by first | rfl | (simp; done) | (simp [*]; done)), H', ⟨by have := HJ4.out; first | omega | exact Nat.le_refl _⟩, by repeat (first | exact Drawn0.refl _ | apply Drawn0.step)⟩
            · rw [if_neg c10] at H
              have c10b0 : decide ((IntKind.u64.wrap ((IntKind.u64.wrap ((IntKind.u64.wrap ((IntKind.u64.wrap ((t124 / 4294967296) * (Go.bits .and .u64 t125 4294967295))) + (IntKind.u64.wrap ((Go.bits .and .u64 t124 4294967295) * (t125 / 4294967296))))) * 4294967296)) + (IntKind.u64.wrap ((Go.bits .and .u64 t124 4294967295) * (Go.bits .and .u64 t125 4294967295))))) < (IntKind.u64.wrap ((Go.bits .and .u64 t124 4294967295) * (Go.bits .and .u64 t125 4294967295)))) = false := decide_eq_false c10
              clear c10
              (first | rw [c10b0] | (simp only [i64_w, i32_w]; rw [c10b0]) | skip)
              have H' := Aside0.mk H
              clear H
              go_wp2
              go_meet
              case rel => exact ⟨_, (decide ((IntKind.u64.wrap ((IntKind.u64.wrap ((IntKind.u64.wrap ((IntKind.u64.wrap ((t124 / 4294967296) * (Go.bits .and .u64 t125 4294967295))) + (IntKind.u64.wrap ((Go.bits .and .u64 t124 4294967295) * (t125 / 4294967296))))) * 4294967296)) + (IntKind.u64.wrap ((Go.bits .and .u64 t124 4294967295) * (Go.bits .and .u64 t125 4294967295))))) > 9223372036854775808)), (by first | rfl | (simp; done) | (simp [*]; done)), H', ⟨by have := HJ4.out; first | omega | exact Nat.le_refl _⟩, by repeat (first | exact Drawn0.refl _ | apply Drawn0.step)⟩
          case rest =>
            clear HC9
            try clear c1
            try clear p2
            try clear c3
            try clear c4
            try clear c6
            try clear c6b0
            try clear c7
            try clear c8
            try clear c8b0
            try clear c10
            try clear c10b0
            try clear p2
            obtain ⟨kq, x55_8, rfl, HA, HJ8, ⟨mc8, rfl⟩⟩ := hcut
            cases kq with
            | zero => exact absurd HA.out (by simp [snaffleref01_Mul.j1])
            | succ kj8 =>
              have H := HA.out
              clear HA
              simp only [snaffleref01_Mul.j1] at H
              by_cases c11 : x55_8 = true
              · subst c11
                have H1 : (some (0, false)) = some (r1, r2) := by rw [if_pos rfl] at H; exact H
                clear H
                have H := H1
                clear H1
                simp only [Option.some.injEq, Prod.mk.injEq] at H
                obtain ⟨rfl, rfl⟩ := H
                go_wp2
                go_ret2
                exact ⟨by first | rfl | (simp; done) | (simp [*]; done), by repeat (first | exact Drawn0.refl _ | apply Drawn0.step)⟩
              · replace c11 := Bool.eq_false_iff.mpr c11
                subst c11
                have H1 : (if ((decide (a0 < 0)) != (decide (a1 < 0))) = true then (some (wrap64 (IntKind.u64.wrap (-(IntKind.u64.wrap ((IntKind.u64.wrap ((IntKind.u64.wrap ((IntKind.u64.wrap ((t124 / 4294967296) * (Go.bits .and .u64 t125 4294967295))) + (IntKind.u64.wrap ((Go.bits .and .u64 t124 4294967295) * (t125 / 4294967296))))) * 4294967296)) + (IntKind.u64.wrap ((Go.bits .and .u64 t124 4294967295) * (Go.bits .and .u64 t125 4294967295))))))), true)) else (some (wrap64 ((IntKind.u64.wrap ((IntKind.u64.wrap ((IntKind.u64.wrap ((IntKind.u64.wrap ((t124 / 4294967296) * (Go.bits .and .u64 t125 4294967295))) + (IntKind.u64.wrap ((Go.bits .and .u64 t124 4294967295) * (t125 / 4294967296))))) * 4294967296)) + (IntKind.u64.wrap ((Go.bits .and .u64 t124 4294967295) * (Go.bits .and .u64 t125 4294967295)))))), decide ((IntKind.u64.wrap ((IntKind.u64.wrap ((IntKind.u64.wrap ((IntKind.u64.wrap ((t124 / 4294967296) * (Go.bits .and .u64 t125 4294967295))) + (IntKind.u64.wrap ((Go.bits .and .u64 t124 4294967295) * (t125 / 4294967296))))) * 4294967296)) + (IntKind.u64.wrap ((Go.bits .and .u64 t124 4294967295) * (Go.bits .and .u64 t125 4294967295))))) < 9223372036854775808)))) = some (r1, r2) := by rw [if_neg (show ¬ (false = true) by decide)] at H; exact H
                clear H
                have H := H1
                clear H1
                by_cases c12 : ((decide (a0 < 0)) != (decide (a1 < 0))) = true
                · rw [if_pos c12] at H
                  have c12b0 : ((decide (a0 < 0)) != (decide (a1 < 0))) = true := c12
                  (try (have c12b1 : decide ((decide (a0 < 0)) = (decide (a1 < 0))) = false := by simpa using c12))
                  (try (have c12b2 : ((decide (a0 < 0)) == (decide (a1 < 0))) = false := by simpa using c12))
                  (try (have c12b3 : ¬ ((decide (a0 < 0)) = (decide (a1 < 0))) := by simpa using c12))
                  clear c12
                  simp only [Option.some.injEq, Prod.mk.injEq] at H
                  obtain ⟨rfl, rfl⟩ := H
                  go_wp2
                  go_ret2
                  exact ⟨by first | rfl | (simp; done) | (simp [*]; done), by repeat (first | exact Drawn0.refl _ | apply Drawn0.step)⟩
                · rw [if_neg c12] at H
                  have c12b0 : ((decide (a0 < 0)) != (decide (a1 < 0))) = false := by simpa using c12
                  (try (have c12b1 : decide ((decide (a0 < 0)) = (decide (a1 < 0))) = true := by simpa using c12))
                  (try (have c12b2 : ((decide (a0 < 0)) == (decide (a1 < 0))) = true := by simpa using c12))
                  clear c12
                  simp only [Option.some.injEq, Prod.mk.injEq] at H
                  obtain ⟨rfl, rfl⟩ := H
                  go_wp2
                  go_ret2
                  exact ⟨by first | rfl | (simp; done) | (simp [*]; done), by repeat (first | exact Drawn0.refl _ | apply Drawn0.step)⟩

/-! ### snaffleref01_Total: function 40 -/
def snaffleref01_Total.l0 : Nat → List Int → Int → Int → Option (Int × Bool)
  | 0, _, _, _ => none
  | k + 1, x0, x4, x5 => if x5 < (x0.length : Int) then (if 0 ≤ x5 then ((snaffleref01_Add.f x4 (rd x0 x5)).bind fun bt127 => (if bt127.2 = true then (snaffleref01_Total.l0 k x0 bt127.1 (wrap64 (x5 + 1))) else (some (0, false)))) else (none)) else (some (x4, true))
def snaffleref01_Total.f (k : Nat) (l0 : List Int) : Option (Int × Bool) := snaffleref01_Total.l0 k l0 0 0
theorem snaffleref01_Total.mono_l : ∀ k, (∀ y0 y1 y2, LeO (snaffleref01_Total.l0 k y0 y1 y2) (snaffleref01_Total.l0 (k + 1) y0 y1 y2))
  | 0 => fun _ _ _ r h => by simp [snaffleref01_Total.l0] at h
  | k + 1 => by
    have ih0 := snaffleref01_Total.mono_l k
    · intro y0 y1 y2
      unfold snaffleref01_Total.l0
      repeat' first
      | (with_reducible exact ih0 _ _ _)
      | (with_reducible exact LeO.refl _)
      | (with_reducible exact LeO.none _)
      | (with_reducible refine LeO.ite ?_ ?_)
      | (with_reducible refine LeO.bind ?_ (fun _ => ?_))
      | exact ih0 _ _ _
      | exact LeO.none _
      | refine LeO.ite ?_ ?_
      | refine LeO.bind ?_ (fun _ => ?_)
theorem snaffleref01_Total.mono : ∀ a0 k, LeO (snaffleref01_Total.f k a0) (snaffleref01_Total.f (k + 1) a0) := by
  intro a0 k
  have ih0 := snaffleref01_Total.mono_l k
  unfold snaffleref01_Total.f
  repeat' first
      | (with_reducible exact ih0 _ _ _)
      | (with_reducible exact LeO.refl _)
      | (with_reducible exact LeO.none _)
      | (with_reducible refine LeO.ite ?_ ?_)
      | (with_reducible refine LeO.bind ?_ (fun _ => ?_))
      | exact ih0 _ _ _
      | exact LeO.none _
      | refine LeO.ite ?_ ?_
      | refine LeO.bind ?_ (fun _ => ?_)
set_option maxHeartbeats 8000000 in
set_option maxRecDepth 100000 in
theorem snaffleref01_Total.calls (k : Nat) (A0 : Option Addr) (c0 : Nat) (l0 : List Int) (r1 : Int) (r2 : Bool) (w : World) (hr0 : Kd.C (Kd.int .i64) w A0 l0.length l0) (hc0 : l0.length ≤ c0) (h : snaffleref01_Total.f k l0 = some (r1, r2)) :
    Calls Try.prog 40 #[.slice A0 l0.length c0] w fun e w' => e = .returned (.tuple #[.int .i64 r1, .bool r2]) ∧ Drawn0 w w' := by
  have HR0 := Aside0.mk hr0
  have HC0 := Aside0.mk hc0
  clear hr0 hc0
  have H : (snaffleref01_Total.l0 k l0 0 0) = some (r1, r2) := h
  clear h
  have H' := Aside0.mk H
  clear H
  go_enter Try.func40, Try.ntmps40
  go_wp2
  go_loopg [4, 5] k (fun kq v4 v5 w' => ∃ (x4_1 : Int) (x5_1 : Int), v4 = .int .i64 x4_1 ∧ v5 = .int .i64 x5_1 ∧ Aside0 (snaffleref01_Total.l0 kq l0 x4_1 x5_1 = some (r1, r2)) ∧ Aside0 (kq ≤ k) ∧ Drawn0 w w')
  case atStart => exact ⟨(0), (0), (by first | rfl | (simp; done) | (simp [*]; done)), (by first | rfl | (simp; done) | (simp [*]; done)), H', ⟨Nat.le_refl _⟩, by repeat (first | exact Drawn0.refl _ | apply Drawn0.step)⟩
  case round =>
    clear H'
    obtain ⟨x4_1, x5_1, rfl, rfl, HA, HK1, ⟨m1, rfl⟩⟩ := hrel
    cases gk with
    | zero => exact absurd HA.out (by simp [snaffleref01_Total.l0])
    | succ k1 =>
      have H := HA.out
      clear HA
      simp only [snaffleref01_Total.l0] at H
      by_cases c2 : x5_1 < (l0.length : Int)
      · rw [if_pos c2] at H
        have c2b0 : decide (x5_1 < (l0.length : Int)) = true := decide_eq_true c2
        clear c2
        by_cases c3 : 0 ≤ x5_1
        · rw [if_pos c3] at H
          have c3b0 : decide (0 ≤ x5_1) = true := decide_eq_true c3
          clear c3
          replace H := Option.bind_eq_some_iff.mp H
          obtain ⟨⟨t127, t128⟩, A40, H⟩ := H
          replace H : (if t128 = true then (snaffleref01_Total.l0 k1 l0 t127 (wrap64 (x5_1 + 1))) else (some (0, false))) = some (r1, r2) := H
          have A4 := Aside0.mk A40
          clear A40
          by_cases c5 : t128 = true
          · subst c5
            have H1 : (snaffleref01_Total.l0 k1 l0 t127 (wrap64 (x5_1 + 1))) = some (r1, r2) := by rw [if_pos rfl] at H; exact H
            clear H
            have H := H1
            clear H1
            have H' := Aside0.mk H
            clear H
            have p126 : 0 ≤ (x5_1 : Int) := of_decide_eq_true (by first | (with_reducible assumption) | assumption)
            have q126 : x5_1 < (l0.length : Int) := of_decide_eq_true (by first | (with_reducible assumption) | assumption)
            obtain ⟨ad126, e126, hx126_0⟩ := Kd.at_int HR0.out x5_1 p126 q126
            cases e126
            replace p126 := eq_true p126
            replace q126 := eq_true q126
            go_wp2_with (first | ((with_reducible refine gate_callee (f := 33) rfl ?_); refine goesL_ (some 20) rfl rfl Try.func33 (by kernel_rfl) rfl #[.int .i64 x4_1, .int .i64 (rd l0 x5_1)] rfl (by (try simp only [List.map_toArray, List.map_cons, List.map_nil]); first | done | rfl | (simp only [List.length_drop, List.length_take]; rfl)) ?_; (with_reducible refine (snaffleref01_Add.calls x4_1 (rd l0 x5_1) t127 true _ A4.out).mono ?_); rintro e w' ⟨rfl, ⟨nd, rfl⟩⟩; refine ⟨_, rfl, ?_⟩))
            go_roundg k1
            case measure => have := HK1.out; omega
            case rel => exact ⟨(t127), (wrap64 (x5_1 + 1)), (by first | rfl | (simp; done) | (simp [*]; done)), (by first | rfl | (simp; done) | (simp [*]; done)), H', ⟨by have := HK1.out; omega⟩, by repeat (first | exact Drawn0.refl _ | apply Drawn0.step)⟩
          · replace c5 := Bool.eq_false_iff.mpr c5
            subst c5
            have H1 : (some (0, false)) = some (r1, r2) := by rw [if_neg (show ¬ (false = true) by decide)] at H; exact H
            clear H
            have H := H1
            clear H1
            simp only [Option.some.injEq, Prod.mk.injEq] at H
            obtain ⟨rfl, rfl⟩ := H
            have p126 : 0 ≤ (x5_1 : Int) := of_decide_eq_true (by first | (with_reducible assumption) | assumption)
            have q126 : x5_1 < (l0.length : Int) := of_decide_eq_true (by first | (with_reducible assumption) | assumption)
            obtain ⟨ad126, e126, hx126_0⟩ := Kd.at_int HR0.out x5_1 p126 q126
            cases e126
            replace p126 := eq_true p126
            replace q126 := eq_true q126
            go_wp2_with (first | ((with_reducible refine gate_callee (f := 33) rfl ?_); refine goesL_ (some 20) rfl rfl Try.func33 (by kernel_rfl) rfl #[.int .i64 x4_1, .int .i64 (rd l0 x5_1)] rfl (by (try simp only [List.map_toArray, List.map_cons, List.map_nil]); first | done | rfl | (simp only [List.length_drop, List.length_take]; rfl)) ?_; (with_reducible refine (snaffleref01_Add.calls x4_1 (rd l0 x5_1) t127 false _ A4.out).mono ?_); rintro e w' ⟨rfl, ⟨nd, rfl⟩⟩; refine ⟨_, rfl, ?_⟩))
            go_ret2
            exact ⟨by first | rfl | (simp; done) | (simp [*]; done), by repeat (first | exact Drawn0.refl _ | apply Drawn0.step)⟩
        · rw [if_neg c3] at H
          exact absurd H (by simp)
      · rw [if_neg c2] at H
        have c2b0 : decide (x5_1 < (l0.length : Int)) = false := decide_eq_false c2
        clear c2
        simp only [Option.some.injEq, Prod.mk.injEq] at H
        obtain ⟨rfl, rfl⟩ := H
        go_wp2
        go_ret2
        exact ⟨by first | rfl | (simp; done) | (simp [*]; done), by repeat (first | exact Drawn0.refl _ | apply Drawn0.step)⟩

/-! ### snaffleref01_Max: function 42 -/
def snaffleref01_Max.f (a0 : Int) (a1 : Int) : Option (Int) := if a0 > a1 then (some a0) else (some a1)
set_option maxHeartbeats 8000000 in
set_option maxRecDepth 100000 in
theorem snaffleref01_Max.calls (a0 : Int) (a1 : Int) (r : Int) (w : World) (h : snaffleref01_Max.f a0 a1 = some r) :
    Calls Try.prog 42 #[.int .i64 a0, .int .i64 a1] w fun e w' => e = .returned (.int .i64 r) ∧ Drawn0 w w' := by
  have H : (if a0 > a1 then (some a0) else (some a1)) = some r := h
  clear h
  by_cases c3 : a0 > a1
  · rw [if_pos c3] at H
    have c3b0 : decide (a1 < a0) = true := decide_eq_true c3
    clear c3
    obtain rfl := Option.some.inj H
    go_enter Try.func42, Try.ntmps42
    go_wp2
    go_ret
    exact ⟨by first | rfl | (simp; done) | (simp [*]; done), by repeat (first | exact Drawn0.refl _ | apply Drawn0.step)⟩
  · rw [if_neg c3] at H
    have c3b0 : decide (a1 < a0) = false := decide_eq_false c3
    clear c3
    obtain rfl := Option.some.inj H
    go_enter Try.func42, Try.ntmps42
    go_wp2
    go_ret
    exact ⟨by first | rfl | (simp; done) | (simp [*]; done), by repeat (first | exact Drawn0.refl _ | apply Drawn0.step)⟩

/-! ### snafflelaw01_NumRight: function 10 -/
def snafflelaw01_NumRight.j0 : Nat → Int → Int → List Int → Int → Int → Int → Bool → Option (Bool)
  | 0, _, _, _, _, _, _, _ => none
  | k + 1, x0, x1, x2, x7, x8, x9, x10 => (snafflelaw01_same.f x7 x8 x9 x10).bind fun t144 => (if t144 = true then ((num_Total.f k x2).bind fun bt145 => ((snaffleref01_Total.f k x2).bind fun bt147 => ((snafflelaw01_same.f bt145.1 bt145.2 bt147.1 bt147.2).bind fun t149 => (if t149 = true then ((num_Max.f x0 x1).bind fun t150 => ((snaffleref01_Max.f x0 x1).bind fun t151 => (some (t150 == t151)))) else (some false))))) else (some false))
def snafflelaw01_NumRight.f (k : Nat) (a0 : Int) (a1 : Int) (l2 : List Int) : Option (Bool) := (snafflelaw01_awake.f k).bind fun t129 => (if t129 = true then (if (l2.length : Int) > 300 then (some true) else ((num_Add.f a0 a1).bind fun bt130 => ((snaffleref01_Add.f a0 a1).bind fun bt132 => ((snafflelaw01_same.f bt130.1 bt130.2 bt132.1 bt132.2).bind fun t134 => (if t134 = true then ((num_Sub.f a0 a1).bind fun bt135 => ((snaffleref01_Sub.f a0 a1).bind fun bt137 => ((snafflelaw01_same.f bt135.1 bt135.2 bt137.1 bt137.2).bind fun t139 => (if t139 = true then ((num_Mul.f k a0 a1).bind fun bt140 => ((snaffleref01_Mul.f k a0 a1).bind fun bt142 => (if bt142.2 = true then (snafflelaw01_NumRight.j0 k a0 a1 l2 bt140.1 bt140.2 bt142.1 bt142.2) else (snafflelaw01_NumRight.j0 k a0 a1 l2 bt140.1 bt140.2 0 bt142.2)))) else (some false))))) else (some false)))))) else (some false))
theorem snafflelaw01_NumRight.mono_l : ∀ k, (∀ y0 y1 y2 y3 y4 y5 y6, LeO (snafflelaw01_NumRight.j0 k y0 y1 y2 y3 y4 y5 y6) (snafflelaw01_NumRight.j0 (k + 1) y0 y1 y2 y3 y4 y5 y6))
  | 0 => fun _ _ _ _ _ _ _ r h => by simp [snafflelaw01_NumRight.j0] at h
  | k + 1 => by
    have ih0 := snafflelaw01_NumRight.mono_l k
    · intro y0 y1 y2 y3 y4 y5 y6
      unfold snafflelaw01_NumRight.j0
      repeat' first
      | (with_reducible exact ih0 _ _ _ _ _ _ _)
      | (with_reducible exact num_Mul.mono _ _ _)
      | (with_reducible exact num_Total.mono _ _)
      | (with_reducible exact snafflelaw01_awake.mono _)
      | (with_reducible exact snaffleref01_Mul.mono _ _ _)
      | (with_reducible exact snaffleref01_Total.mono _ _)
      | (with_reducible exact LeO.refl _)
      | (with_reducible exact LeO.none _)
      | (with_reducible refine LeO.ite ?_ ?_)
      | (with_reducible refine LeO.bind ?_ (fun _ => ?_))
      | exact ih0 _ _ _ _ _ _ _
      | exact num_Mul.mono _ _ _
      | exact num_Total.mono _ _
      | exact snafflelaw01_awake.mono _
      | exact snaffleref01_Mul.mono _ _ _
      | exact snaffleref01_Total.mono _ _
      | exact LeO.none _
      | refine LeO.ite ?_ ?_
      | refine LeO.bind ?_ (fun _ => ?_)
theorem snafflelaw01_NumRight.mono : ∀ a0 a1 a2 k, LeO (snafflelaw01_NumRight.f k a0 a1 a2) (snafflelaw01_NumRight.f (k + 1) a0 a1 a2) := by
  intro a0 a1 a2 k
  have ih0 := snafflelaw01_NumRight.mono_l k
  unfold snafflelaw01_NumRight.f
  repeat' first
      | (with_reducible exact ih0 _ _ _ _ _ _ _)
      | (with_reducible exact num_Mul.mono _ _ _)
      | (with_reducible exact num_Total.mono _ _)
      | (with_reducible exact snafflelaw01_awake.mono _)
      | (with_reducible exact snaffleref01_Mul.mono _ _ _)
      | (with_reducible exact snaffleref01_Total.mono _ _)
      | (with_reducible exact LeO.refl _)
      | (with_reducible exact LeO.none _)
      | (with_reducible refine LeO.ite ?_ ?_)
      | (with_reducible refine LeO.bind ?_ (fun _ => ?_))
      | exact ih0 _ _ _ _ _ _ _
      | exact num_Mul.mono _ _ _
      | exact num_Total.mono _ _
      | exact snafflelaw01_awake.mono _
      | exact snaffleref01_Mul.mono _ _ _
      | exact snaffleref01_Total.mono _ _
      | exact LeO.none _
      | refine LeO.ite ?_ ?_
      | refine LeO.bind ?_ (fun _ => ?_)
set_option maxHeartbeats 8000000 in
set_option maxRecDepth 100000 in
theorem snafflelaw01_NumRight.calls (k : Nat) (a0 : Int) (a1 : Int) (A2 : Option Addr) (c2 : Nat) (l2 : List Int) (r : Bool) (w : World) (hr2 : Kd.C (Kd.int .i64) w A2 l2.length l2) (hc2 : l2.length ≤ c2) (h : snafflelaw01_NumRight.f k a0 a1 l2 = some r) :
    Calls Try.prog 10 #[.int .i64 a0, .int .i64 a1, .slice A2 l2.length c2] w fun e w' => e = .returned (.bool r) ∧ Below w.heap.size w w' := by
  have HR2 := Aside0.mk hr2
  have HC2 := Aside0.mk hc2
  clear hr2 hc2
  have HB := Aside0.mk (Below.refl w.heap.size w)
  have H : ((snafflelaw01_awake.f k).bind fun t129 => (if t129 = true then (if (l2.length : Int) > 300 then (some true) else ((num_Add.f a0 a1).bind fun bt130 => ((snaffleref01_Add.f a0 a1).bind fun bt132 => ((snafflelaw01_same.f bt130.1 bt130.2 bt132.1 bt132.2).bind fun t134 => (if t134 = true then ((num_Sub.f a0 a1).bind fun bt135 => ((snaffleref01_Sub.f a0 a1).bind fun bt137 => ((snafflelaw01_same.f bt135.1 bt135.2 bt137.1 bt137.2).bind fun t139 => (if t139 = true then ((num_Mul.f k a0 a1).bind fun bt140 => ((snaffleref01_Mul.f k a0 a1).bind fun bt142 => (if bt142.2 = true then (snafflelaw01_NumRight.j0 k a0 a1 l2 bt140.1 bt140.2 bt142.1 bt142.2) else (snafflelaw01_NumRight.j0 k a0 a1 l2 bt140.1 bt140.2 0 bt142.2)))) else (some false))))) else (some false)))))) else (some false))) = some r := h
  clear h
  replace H := Option.bind_eq_some_iff.mp H
  obtain ⟨t129, A40, H⟩ := H
  replace H : (if t129 = true then (if (l2.length : Int) > 300 then (some true) else ((num_Add.f a0 a1).bind fun bt130 => ((snaffleref01_Add.f a0 a1).bind fun bt132 => ((snafflelaw01_same.f bt130.1 bt130.2 bt132.1 bt132.2).bind fun t134 => (if t134 = true then ((num_Sub.f a0 a1).bind fun bt135 => ((snaffleref01_Sub.f a0 a1).bind fun bt137 => ((snafflelaw01_same.f bt135.1 bt135.2 bt137.1 bt137.2).bind fun t139 => (if t139 = true then ((num_Mul.f k a0 a1).bind fun bt140 => ((snaffleref01_Mul.f k a0 a1).bind fun bt142 => (if bt142.2 = true then (snafflelaw01_NumRight.j0 k a0 a1 l2 bt140.1 bt140.2 bt142.1 bt142.2) else (snafflelaw01_NumRight.j0 k a0 a1 l2 bt140.1 bt140.2 0 bt142.2)))) else (some false))))) else (some false)))))) else (some false)) = some r := H
  have A4 := Aside0.mk A40
  clear A40
  by_cases c5 : t129 = true
  · subst c5
    have H1 : (if (l2.length : Int) > 300 then (some true) else ((num_Add.f a0 a1).bind fun bt130 => ((snaffleref01_Add.f a0 a1).bind fun bt132 => ((snafflelaw01_same.f bt130.1 bt130.2 bt132.1 bt132.2).bind fun t134 => (if t134 = true then ((num_Sub.f a0 a1).bind fun bt135 => ((snaffleref01_Sub.f a0 a1).bind fun bt137 => ((snafflelaw01_same.f bt135.1 bt135.2 bt137.1 bt137.2).bind fun t139 => (if t139 = true then ((num_Mul.f k a0 a1).bind fun bt140 => ((snaffleref01_Mul.f k a0 a1).bind fun bt142 => (if bt142.2 = true then (snafflelaw01_NumRight.j0 k a0 a1 l2 bt140.1 bt140.2 bt142.1 bt142.2) else (snafflelaw01_NumRight.j0 k a0 a1 l2 bt140.1 bt140.2 0 bt142.2)))) else (some false))))) else (some false)))))) = some r := by rw [if_pos rfl] at H; exact H
    clear H
    have H := H1
    clear H1
    by_cases c6 : (l2.length : Int) > 300
    · rw [if_pos c6] at H
      have c6b0 : decide (300 < (l2.length : Int)) = true := decide_eq_true c6
      have c6b1 : decide (300 < l2.length) = true := decide_eq_true (by omega)
      clear c6
      obtain rfl := Option.some.inj H
      go_enter Try.func10, Try.ntmps10
      go_wp2_with (first | ((with_reducible refine gate_callee (f := 31) rfl ?_); refine goesL_ (some 11) rfl rfl Try.func31 (by kernel_rfl) rfl #[] rfl (by (try simp only [List.map_toArray, List.map_cons, List.map_nil]); first | done | rfl | (simp only [List.length_drop, List.length_take]; rfl)) ?_; (with_reducible refine (snafflelaw01_awake.calls k  true _ A4.out).mono ?_); rintro e w7 ⟨rfl, hb⟩; refine ⟨_, rfl, ?_⟩; have n0_ := Aside0.mk (below_step (by repeat (first | (with_reducible first | exact HB.out | apply below_alloc | apply pw_below_drewN | apply below_drew1) | exact HB.out)) hb); clear HB; have HB := n0_; clear n0_; (try clear hb); (try clear hb2); (try clear hk); (try clear hi)))
      go_ret
      exact ⟨by first | rfl | (simp [errW_none, errW_some] <;> rfl) | (simp [*, errW_none, errW_some] <;> rfl), by repeat (first | (with_reducible first | exact HB.out | apply below_alloc | apply pw_below_drewN | apply below_drew1) | exact HB.out)⟩
    · rw [if_neg c6] at H
      have c6b0 : decide (300 < (l2.length : Int)) = false := decide_eq_false c6
      have c6b1 : decide (300 < l2.length) = false := decide_eq_false (by omega)
      clear c6
      replace H := Option.bind_eq_some_iff.mp H
      obtain ⟨⟨t130, t131⟩, A80, H⟩ := H
      replace H : ((snaffleref01_Add.f a0 a1).bind fun bt132 => ((snafflelaw01_same.f t130 t131 bt132.1 bt132.2).bind fun t134 => (if t134 = true then ((num_Sub.f a0 a1).bind fun bt135 => ((snaffleref01_Sub.f a0 a1).bind fun bt137 => ((snafflelaw01_same.f bt135.1 bt135.2 bt137.1 bt137.2).bind fun t139 => (if t139 = true then ((num_Mul.f k a0 a1).bind fun bt140 => ((snaffleref01_Mul.f k a0 a1).bind fun bt142 => (if bt142.2 = true then (snafflelaw01_NumRight.j0 k a0 a1 l2 bt140.1 bt140.2 bt142.1 bt142.2) else (snafflelaw01_NumRight.j0 k a0 a1 l2 bt140.1 bt140.2 0 bt142.2)))) else (some false))))) else (some false)))) = some r := H
      have A8 := Aside0.mk A80
      clear A80
      replace H := Option.bind_eq_some_iff.mp H
      obtain ⟨⟨t132, t133⟩, A90, H⟩ := H
      replace H : ((snafflelaw01_same.f t130 t131 t132 t133).bind fun t134 => (if t134 = true then ((num_Sub.f a0 a1).bind fun bt135 => ((snaffleref01_Sub.f a0 a1).bind fun bt137 => ((snafflelaw01_same.f bt135.1 bt135.2 bt137.1 bt137.2).bind fun t139 => (if t139 = true then ((num_Mul.f k a0 a1).bind fun bt140 => ((snaffleref01_Mul.f k a0 a1).bind fun bt142 => (if bt142.2 = true then (snafflelaw01_NumRight.j0 k a0 a1 l2 bt140.1 bt140.2 bt142.1 bt142.2) else (snafflelaw01_NumRight.j0 k a0 a1 l2 bt140.1 bt140.2 0 bt142.2)))) else (some false))))) else (some false))) = some r := H
      have A9 := Aside0.mk A90
      clear A90
      replace H := Option.bind_eq_some_iff.mp H
      obtain ⟨t134, A100, H⟩ := H
      replace H : (if t134 = true then ((num_Sub.f a0 a1).bind fun bt135 => ((snaffleref01_Sub.f a0 a1).bind fun bt137 => ((snafflelaw01_same.f bt135.1 bt135.2 bt137.1 bt137.2).bind fun t139 => (if t139 = true then ((num_Mul.f k a0 a1).bind fun bt140 => ((snaffleref01_Mul.f k a0 a1).bind fun bt142 => (if bt142.2 = true then (snafflelaw01_NumRight.j0 k a0 a1 l2 bt140.1 bt140.2 bt142.1 bt142.2) else (snafflelaw01_NumRight.j0 k a0 a1 l2 bt140.1 bt140.2 0 bt142.2)))) else (some false))))) else (some false)) = some r := H
      have A10 := Aside0.mk A100
      clear A100
      by_cases c11 : t134 = true
      · subst c11
        have H1 : ((num_Sub.f a0 a1).bind fun bt135 => ((snaffleref01_Sub.f a0 a1).bind fun bt137 => ((snafflelaw01_same.f bt135.1 bt135.2 bt137.1 bt137.2).bind fun t139 => (if t139 = true then ((num_Mul.f k a0 a1).bind fun bt140 => ((snaffleref01_Mul.f k a0 a1).bind fun bt142 => (if bt142.2 = true then (snafflelaw01_NumRight.j0 k a0 a1 l2 bt140.1 bt140.2 bt142.1 bt142.2) else (snafflelaw01_NumRight.j0 k a0 a1 l2 bt140.1 bt140.2 0 bt142.2)))) else (some false))))) = some r := by rw [if_pos rfl] at H; exact H
        clear H
        have H := H1
        clear H1
        replace H := Option.bind_eq_some_iff.mp H
        obtain ⟨⟨t135, t136⟩, A120, H⟩ := H
        replace H : ((snaffleref01_Sub.f a0 a1).bind fun bt137 => ((snafflelaw01_same.f t135 t136 bt137.1 bt137.2).bind fun t139 => (if t139 = true then ((num_Mul.f k a0 a1).bind fun bt140 => ((snaffleref01_Mul.f k a0 a1).bind fun bt142 => (if bt142.2 = true then (snafflelaw01_NumRight.j0 k a0 a1 l2 bt140.1 bt140.2 bt142.1 bt142.2) else (snafflelaw01_NumRight.j0 k a0 a1 l2 bt140.1 bt140.2 0 bt142.2)))) else (some false)))) = some r := H
        have A12 := Aside0.mk A120
        clear A120
        replace H := Option.bind_eq_some_iff.mp H
        obtain ⟨⟨t137, t138⟩, A130, H⟩ := H
        replace H : ((snafflelaw01_same.f t135 t136 t137 t138).bind fun t139 => (if t139 = true then ((num_Mul.f k a0 a1).bind fun bt140 => ((snaffleref01_Mul.f k a0 a1).bind fun bt142 => (if bt142.2 = true then (snafflelaw01_NumRight.j0 k a0 a1 l2 bt140.1 bt140.2 bt142.1 bt142.2) else (snafflelaw01_NumRight.j0 k a0 a1 l2 bt140.1 bt140.2 0 bt142.2)))) else (some false))) = some r := H
        have A13 := Aside0.mk A130
        clear A130
        replace H := Option.bind_eq_some_iff.mp H
        obtain ⟨t139, A140, H⟩ := H
        replace H : (if t139 = true then ((num_Mul.f k a0 a1).bind fun bt140 => ((snaffleref01_Mul.f k a0 a1).bind fun bt142 => (if bt142.2 = true then (snafflelaw01_NumRight.j0 k a0 a1 l2 bt140.1 bt140.2 bt142.1 bt142.2) else (snafflelaw01_NumRight.j0 k a0 a1 l2 bt140.1 bt140.2 0 bt142.2)))) else (some false)) = some r := H
        have A14 := Aside0.mk A140
        clear A140
        by_cases c15 : t139 = true
        · subst c15
          have H1 : ((num_Mul.f k a0 a1).bind fun bt140 => ((snaffleref01_Mul.f k a0 a1).bind fun bt142 => (if bt142.2 = true then (snafflelaw01_NumRight.j0 k a0 a1 l2 bt140.1 bt140.2 bt142.1 bt142.2) else (snafflelaw01_NumRight.j0 k a0 a1 l2 bt140.1 bt140.2 0 bt142.2)))) = some r := by rw [if_pos rfl] at H; exact H
          clear H
          have H := H1
          clear H1
          replace H := Option.bind_eq_some_iff.mp H
          obtain ⟨⟨t140, t141⟩, A160, H⟩ := H
          replace H : ((snaffleref01_Mul.f k a0 a1).bind fun bt142 => (if bt142.2 = true then (snafflelaw01_NumRight.j0 k a0 a1 l2 t140 t141 bt142.1 bt142.2) else (snafflelaw01_NumRight.j0 k a0 a1 l2 t140 t141 0 bt142.2))) = some r := H
          have A16 := Aside0.mk A160
          clear A160
          replace H := Option.bind_eq_some_iff.mp H
          obtain ⟨⟨t142, t143⟩, A170, H⟩ := H
          replace H : (if t143 = true then (snafflelaw01_NumRight.j0 k a0 a1 l2 t140 t141 t142 t143) else (snafflelaw01_NumRight.j0 k a0 a1 l2 t140 t141 0 t143)) = some r := H
          have A17 := Aside0.mk A170
          clear A170
          have HC18 := Aside0.mk H
          clear H
          go_enter Try.func10, Try.ntmps10
          go_upto_if 65 with (first | ((with_reducible refine gate_callee (f := 31) rfl ?_); refine goesL_ (some 11) rfl rfl Try.func31 (by kernel_rfl) rfl #[] rfl (by (try simp only [List.map_toArray, List.map_cons, List.map_nil]); first | done | rfl | (simp only [List.length_drop, List.length_take]; rfl)) ?_; (with_reducible refine (snafflelaw01_awake.calls k  true _ A4.out).mono ?_); rintro e w19 ⟨rfl, hb⟩; refine ⟨_, rfl, ?_⟩; have n0_ := Aside0.mk (below_step (by repeat (first | (with_reducible first | exact HB.out | apply below_alloc | apply pw_below_drewN | apply below_drew1) | exact HB.out)) hb); clear HB; have HB := n0_; clear n0_; (try clear hb); (try clear hb2); (try clear hk); (try clear hi)) | ((with_reducible refine gate_callee (f := 32) rfl ?_); refine goesL_ (some 19) rfl rfl Try.func32 (by kernel_rfl) rfl #[.int .i64 a0, .int .i64 a1] rfl (by (try simp only [List.map_toArray, List.map_cons, List.map_nil]); first | done | rfl | (simp only [List.length_drop, List.length_take]; rfl)) ?_; (with_reducible refine (num_Add.calls a0 a1 t130 t131 _ A8.out).mono ?_); rintro e w' ⟨rfl, ⟨nd, rfl⟩⟩; refine ⟨_, rfl, ?_⟩) | ((with_reducible refine gate_callee (f := 33) rfl ?_); refine goesL_ (some 25) rfl rfl Try.func33 (by kernel_rfl) rfl #[.int .i64 a0, .int .i64 a1] rfl (by (try simp only [List.map_toArray, List.map_cons, List.map_nil]); first | done | rfl | (simp only [List.length_drop, List.length_take]; rfl)) ?_; (with_reducible refine (snaffleref01_Add.calls a0 a1 t132 t133 _ A9.out).mono ?_); rintro e w' ⟨rfl, ⟨nd, rfl⟩⟩; refine ⟨_, rfl, ?_⟩) | ((with_reducible refine gate_callee (f := 34) rfl ?_); refine goesL_ (some 32) rfl rfl Try.func34 (by kernel_rfl) rfl #[.int .i64 t130, .int .i64 t131, .int .i64 t132, .bool t133] rfl (by (try simp only [List.map_toArray, List.map_cons, List.map_nil]); first | done | rfl | (simp only [List.length_drop, List.length_take]; rfl)) ?_; (with_reducible refine (snafflelaw01_same.calls t130 t131 t132 t133 true _ A10.out).mono ?_); rintro e w' ⟨rfl, ⟨nd, rfl⟩⟩; refine ⟨_, rfl, ?_⟩) | ((with_reducible refine gate_callee (f := 35) rfl ?_); refine goesL_ (some 37) rfl rfl Try.func35 (by kernel_rfl) rfl #[.int .i64 a0, .int .i64 a1] rfl (by (try simp only [List.map_toArray, List.map_cons, List.map_nil]); first | done | rfl | (simp only [List.length_drop, List.length_take]; rfl)) ?_; (with_reducible refine (num_Sub.calls a0 a1 t135 t136 _ A12.out).mono ?_); rintro e w' ⟨rfl, ⟨nd, rfl⟩⟩; refine ⟨_, rfl, ?_⟩) | ((with_reducible refine gate_callee (f := 36) rfl ?_); refine goesL_ (some 43) rfl rfl Try.func36 (by kernel_rfl) rfl #[.int .i64 a0, .int .i64 a1] rfl (by (try simp only [List.map_toArray, List.map_cons, List.map_nil]); first | done | rfl | (simp only [List.length_drop, List.length_take]; rfl)) ?_; (with_reducible refine (snaffleref01_Sub.calls a0 a1 t137 t138 _ A13.out).mono ?_); rintro e w' ⟨rfl, ⟨nd, rfl⟩⟩; refine ⟨_, rfl, ?_⟩) | ((with_reducible refine gate_callee (f := 34) rfl ?_); refine goesL_ (some 50) rfl rfl Try.func34 (by kernel_rfl) rfl #[.int .i64 t135, .int .i64 t136, .int .i64 t137, .bool t138] rfl (by (try simp only [List.map_toArray, List.map_cons, List.map_nil]); first | done | rfl | (simp only [List.length_drop, List.length_take]; rfl)) ?_; (with_reducible refine (snafflelaw01_same.calls t135 t136 t137 t138 true _ A14.out).mono ?_); rintro e w' ⟨rfl, ⟨nd, rfl⟩⟩; refine ⟨_, rfl, ?_⟩) | ((with_reducible refine gate_callee (f := 37) rfl ?_); refine goesL_ (some 55) rfl rfl Try.func37 (by kernel_rfl) rfl #[.int .i64 a0, .int .i64 a1] rfl (by (try simp only [List.map_toArray, List.map_cons, List.map_nil]); first | done | rfl | (simp only [List.length_drop, List.length_take]; rfl)) ?_; (with_reducible refine (num_Mul.calls k a0 a1 t140 t141 _ A16.out).mono ?_); rintro e w' ⟨rfl, ⟨nd, rfl⟩⟩; refine ⟨_, rfl, ?_⟩) | ((with_reducible refine gate_callee (f := 38) rfl ?_); refine goesL_ (some 61) rfl rfl Try.func38 (by kernel_rfl) rfl #[.int .i64 a0, .int .i64 a1] rfl (by (try simp only [List.map_toArray, List.map_cons, List.map_nil]); first | done | rfl | (simp only [List.length_drop, List.length_take]; rfl)) ?_; (with_reducible refine (snaffleref01_Mul.calls k a0 a1 t142 t143 _ A17.out).mono ?_); rintro e w' ⟨rfl, ⟨nd, rfl⟩⟩; refine ⟨_, rfl, ?_⟩))
          (try simp only [Act.put, List.setIfInBounds_toArray, List.set_cons_zero, List.set_cons_succ])
          go_cut [9] (fun v9 wc => ∃ (kq : Nat) (x9_17 : Int), v9 = .int .i64 x9_17 ∧ Aside0 (snafflelaw01_NumRight.j0 kq a0 a1 l2 t140 t141 x9_17 t143 = some r) ∧ Aside0 (kq ≤ k) ∧ Aside0 (Below w.heap.size w wc))
          case first =>
            have H := HC18.out
            clear HC18
            by_cases c20 : t143 = true
            · subst c20
              have H1 : (snafflelaw01_NumRight.j0 k a0 a1 l2 t140 t141 t142 true) = some r := by rw [if_pos rfl] at H; exact H
              clear H
              have H := H1
              clear H1
              have H' := Aside0.mk H
              clear H
              go_wp2
              go_meet
              case rel => exact ⟨_, (t142), (by first | rfl | (simp; done) | (simp [*]; done)), H', ⟨by first | omega | exact Nat.le_refl _⟩, ⟨by repeat (first | (with_reducible first | exact HB.out | apply below_alloc | apply pw_below_drewN | apply below_drew1) | exact HB.out)⟩⟩
            · replace c20 := Bool.eq_false_iff.mpr c20
              subst c20
              have H1 : (snafflelaw01_NumRight.j0 k a0 a1 l2 t140 t141 0 false) = some r := by rw [if_neg (show ¬ (false = true) by decide)] at H; exact H
              clear H
              have H := H1
              clear H1
              have H' := Aside0.mk H
              clear H
              go_wp2
              go_meet
              case rel => exact ⟨_, (0), (by first | rfl | (simp; done) | (simp [*]; done)), H', ⟨by first | omega | exact Nat.le_refl _⟩, ⟨by repeat (first | (with_reducible first | exact HB.out | apply below_alloc | apply pw_below_drewN | apply below_drew1) | exact HB.out)⟩⟩
          case rest =>
            clear HC18
            try clear c1
            try clear c2
            try clear p2
            try clear c3
            try clear c5
            try clear c6
            try clear c6b0
            try clear c6b1
            try clear c10
            try clear c11
            try clear c15
            try clear c20
            obtain ⟨kq, x9_17, rfl, HA, HJ17, HB⟩ := hcut
            cases kq with
            | zero => exact absurd HA.out (by simp [snafflelaw01_NumRight.j0])
            | succ kj17 =>
              have H := HA.out
              clear HA
              simp only [snafflelaw01_NumRight.j0] at H
              replace H := Option.bind_eq_some_iff.mp H
              obtain ⟨t144, A210, H⟩ := H
              replace H : (if t144 = true then ((num_Total.f kj17 l2).bind fun bt145 => ((snaffleref01_Total.f kj17 l2).bind fun bt147 => ((snafflelaw01_same.f bt145.1 bt145.2 bt147.1 bt147.2).bind fun t149 => (if t149 = true then ((num_Max.f a0 a1).bind fun t150 => ((snaffleref01_Max.f a0 a1).bind fun t151 => (some (t150 == t151)))) else (some false))))) else (some false)) = some r := H
              have A21 := Aside0.mk A210
              clear A210
              by_cases c22 : t144 = true
              · subst c22
                have H1 : ((num_Total.f kj17 l2).bind fun bt145 => ((snaffleref01_Total.f kj17 l2).bind fun bt147 => ((snafflelaw01_same.f bt145.1 bt145.2 bt147.1 bt147.2).bind fun t149 => (if t149 = true then ((num_Max.f a0 a1).bind fun t150 => ((snaffleref01_Max.f a0 a1).bind fun t151 => (some (t150 == t151)))) else (some false))))) = some r := by rw [if_pos rfl] at H; exact H
                clear H
                have H := H1
                clear H1
                replace H := Option.bind_eq_some_iff.mp H
                obtain ⟨⟨t145, t146⟩, A230, H⟩ := H
                replace H : ((snaffleref01_Total.f kj17 l2).bind fun bt147 => ((snafflelaw01_same.f t145 t146 bt147.1 bt147.2).bind fun t149 => (if t149 = true then ((num_Max.f a0 a1).bind fun t150 => ((snaffleref01_Max.f a0 a1).bind fun t151 => (some (t150 == t151)))) else (some false)))) = some r := H
                have A23 := Aside0.mk A230
                clear A230
                replace H := Option.bind_eq_some_iff.mp H
                obtain ⟨⟨t147, t148⟩, A240, H⟩ := H
                replace H : ((snafflelaw01_same.f t145 t146 t147 t148).bind fun t149 => (if t149 = true then ((num_Max.f a0 a1).bind fun t150 => ((snaffleref01_Max.f a0 a1).bind fun t151 => (some (t150 == t151)))) else (some false))) = some r := H
                have A24 := Aside0.mk A240
                clear A240
                replace H := Option.bind_eq_some_iff.mp H
                obtain ⟨t149, A250, H⟩ := H
                replace H : (if t149 = true then ((num_Max.f a0 a1).bind fun t150 => ((snaffleref01_Max.f a0 a1).bind fun t151 => (some (t150 == t151)))) else (some false)) = some r := H
                have A25 := Aside0.mk A250
                clear A250
                by_cases c26 : t149 = true
                · subst c26
                  have H1 : ((num_Max.f a0 a1).bind fun t150 => ((snaffleref01_Max.f a0 a1).bind fun t151 => (some (t150 == t151)))) = some r := by rw [if_pos rfl] at H; exact H
                  clear H
                  have H := H1
                  clear H1
                  replace H := Option.bind_eq_some_iff.mp H
                  obtain ⟨t150, A270, H⟩ := H
                  replace H : ((snaffleref01_Max.f a0 a1).bind fun t151 => (some (t150 == t151))) = some r := H
                  have A27 := Aside0.mk A270
                  clear A270
                  replace H := Option.bind_eq_some_iff.mp H
                  obtain ⟨t151, A280, H⟩ := H
                  replace H : (some (t150 == t151)) = some r := H
                  have A28 := Aside0.mk A280
                  clear A280
                  obtain rfl := Option.some.inj H
                  go_wp2_with (first | ((with_reducible refine gate_callee (f := 34) rfl ?_); refine goesL_ (some 70) rfl rfl Try.func34 (by kernel_rfl) rfl #[.int .i64 t140, .int .i64 t141, .int .i64 x9_17, .bool t143] rfl (by (try simp only [List.map_toArray, List.map_cons, List.map_nil]); first | done | rfl | (simp only [List.length_drop, List.length_take]; rfl)) ?_; (with_reducible refine (snafflelaw01_same.calls t140 t141 x9_17 t143 true _ A21.out).mono ?_); rintro e w' ⟨rfl, ⟨nd, rfl⟩⟩; refine ⟨_, rfl, ?_⟩) | ((with_reducible refine gate_callee (f := 39) rfl ?_); refine goesL_ (some 74) rfl rfl Try.func39 (by kernel_rfl) rfl #[.slice A2 l2.length c2] rfl (by (try simp only [List.map_toArray, List.map_cons, List.map_nil]); first | done | rfl | (simp only [List.length_drop, List.length_take]; rfl)) ?_; (with_reducible refine (num_Total.calls kj17 _ _ l2 t145 t146 _ ?side1 ?side2 A23.out).mono ?_); (case side1 => repeat (first | exact (Kd.C_below HR2.out (by repeat (first | (with_reducible first | exact HB.out | apply below_alloc | apply pw_below_drewN | apply below_drew1) | exact HB.out))) | (with_reducible refine Kd.C_alloc ?_ _) | (with_reducible refine Kd.C_drewN ?_ _) | (with_reducible refine Kd.C_drew ?_))); (case side2 => exact HC2.out); rintro e w' ⟨rfl, ⟨nd, rfl⟩⟩; refine ⟨_, rfl, ?_⟩) | ((with_reducible refine gate_callee (f := 40) rfl ?_); refine goesL_ (some 79) rfl rfl Try.func40 (by kernel_rfl) rfl #[.slice A2 l2.length c2] rfl (by (try simp only [List.map_toArray, List.map_cons, List.map_nil]); first | done | rfl | (simp only [List.length_drop, List.length_take]; rfl)) ?_; (with_reducible refine (snaffleref01_Total.calls kj17 _ _ l2 t147 t148 _ ?side1 ?side2 A24.out).mono ?_); (case side1 => repeat (first | exact (Kd.C_below HR2.out (by repeat (first | (with_reducible first | exact HB.out | apply below_alloc | apply pw_below_drewN | apply below_drew1) | exact HB.out))) | (with_reducible refine Kd.C_alloc ?_ _) | (with_reducible refine Kd.C_drewN ?_ _) | (with_reducible refine Kd.C_drew ?_))); (case side2 => exact HC2.out); rintro e w' ⟨rfl, ⟨nd, rfl⟩⟩; refine ⟨_, rfl, ?_⟩) | ((with_reducible refine gate_callee (f := 34) rfl ?_); refine goesL_ (some 86) rfl rfl Try.func34 (by kernel_rfl) rfl #[.int .i64 t145, .int .i64 t146, .int .i64 t147, .bool t148] rfl (by (try simp only [List.map_toArray, List.map_cons, List.map_nil]); first | done | rfl | (simp only [List.length_drop, List.length_take]; rfl)) ?_; (with_reducible refine (snafflelaw01_same.calls t145 t146 t147 t148 true _ A25.out).mono ?_); rintro e w' ⟨rfl, ⟨nd, rfl⟩⟩; refine ⟨_, rfl, ?_⟩) | (go_at_call 41; (with_reducible refine (num_Max.calls a0 a1 t150 _ A27.out).mono ?_); rintro e w29 ⟨rfl, hb⟩; have n0_ := Aside0.mk (below_step (by repeat (first | (with_reducible first | exact HB.out | apply below_alloc | apply pw_below_drewN | apply below_drew1) | exact HB.out)) hb); clear HB; have HB := n0_; clear n0_; (try clear hb); (try clear hb2); (try clear hk); (try clear hi)) | (go_at_call 42; (with_reducible refine (snaffleref01_Max.calls a0 a1 t151 _ A28.out).mono ?_); rintro e w' ⟨rfl, ⟨nd, rfl⟩⟩))
                  go_ret
                  exact ⟨by first | rfl | (simp [errW_none, errW_some] <;> rfl) | (simp [*, errW_none, errW_some] <;> rfl), by repeat (first | (with_reducible first | exact HB.out | apply below_alloc | apply pw_below_drewN | apply below_drew1) | exact HB.out)⟩
                · replace c26 := Bool.eq_false_iff.mpr c26
                  subst c26
                  have H1 : (some false) = some r := by rw [if_neg (show ¬ (false = true) by decide)] at H; exact H
                  clear H
                  have H := H1
                  clear H1
                  obtain rfl := Option.some.inj H
                  go_wp2_with (first | ((with_reducible refine gate_callee (f := 34) rfl ?_); refine goesL_ (some 70) rfl rfl Try.func34 (by kernel_rfl) rfl #[.int .i64 t140, .int .i64 t141, .int .i64 x9_17, .bool t143] rfl (by (try simp only [List.map_toArray, List.map_cons, List.map_nil]); first | done | rfl | (simp only [List.length_drop, List.length_take]; rfl)) ?_; (with_reducible refine (snafflelaw01_same.calls t140 t141 x9_17 t143 true _ A21.out).mono ?_); rintro e w' ⟨rfl, ⟨nd, rfl⟩⟩; refine ⟨_, rfl, ?_⟩) | ((with_reducible refine gate_callee (f := 39) rfl ?_); refine goesL_ (some 74) rfl rfl Try.func39 (by kernel_rfl) rfl #[.slice A2 l2.length c2] rfl (by (try simp only [List.map_toArray, List.map_cons, List.map_nil]); first | done | rfl | (simp only [List.length_drop, List.length_take]; rfl)) ?_; (with_reducible refine (num_Total.calls kj17 _ _ l2 t145 t146 _ ?side1 ?side2 A23.out).mono ?_); (case side1 => repeat (first | exact (Kd.C_below HR2.out (by repeat (first | (with_reducible first | exact HB.out | apply below_alloc | apply pw_below_drewN | apply below_drew1) | exact HB.out))) | (with_reducible refine Kd.C_alloc ?_ _) | (with_reducible refine Kd.C_drewN ?_ _) | (with_reducible refine Kd.C_drew ?_))); (case side2 => exact HC2.out); rintro e w' ⟨rfl, ⟨nd, rfl⟩⟩; refine ⟨_, rfl, ?_⟩) | ((with_reducible refine gate_callee (f := 40) rfl ?_); refine goesL_ (some 79) rfl rfl Try.func40 (by kernel_rfl) rfl #[.slice A2 l2.length c2] rfl (by (try simp only [List.map_toArray, List.map_cons, List.map_nil]); first | done | rfl | (simp only [List.length_drop, List.length_take]; rfl)) ?_; (with_reducible refine (snaffleref01_Total.calls kj17 _ _ l2 t147 t148 _ ?side1 ?side2 A24.out).mono ?_); (case side1 => repeat (first | exact (Kd.C_below HR2.out (by repeat (first | (with_reducible first | exact HB.out | apply below_alloc | apply pw_below_drewN | apply below_drew1) | exact HB.out))) | (with_reducible refine Kd.C_alloc ?_ _) | (with_reducible refine Kd.C_drewN ?_ _) | (with_reducible refine Kd.C_drew ?_))); (case side2 => exact HC2.out); rintro e w' ⟨rfl, ⟨nd, rfl⟩⟩; refine ⟨_, rfl, ?_⟩) | ((with_reducible refine gate_callee (f := 34) rfl ?_); refine goesL_ (some 86) rfl rfl Try.func34 (by kernel_rfl) rfl #[.int .i64 t145, .int .i64 t146, .int .i64 t147, .bool t148] rfl (by (try simp only [List.map_toArray, List.map_cons, List.map_nil]); first | done | rfl | (simp only [List.length_drop, List.length_take]; rfl)) ?_; (with_reducible refine (snafflelaw01_same.calls t145 t146 t147 t148 false _ A25.out).mono ?_); rintro e w' ⟨rfl, ⟨nd, rfl⟩⟩; refine ⟨_, rfl, ?_⟩))
                  go_ret
                  exact ⟨by first | rfl | (simp [errW_none, errW_some] <;> rfl) | (simp [*, errW_none, errW_some] <;> rfl), by repeat (first | (with_reducible first | exact HB.out | apply below_alloc | apply pw_below_drewN | apply below_drew1) | exact HB.out)⟩
              · replace c22 := Bool.eq_false_iff.mpr c22
                subst c22
                have H1 : (some false) = some r := by rw [if_neg (show ¬ (false = true) by decide)] at H; exact H
                clear H
                have H := H1
                clear H1
                obtain rfl := Option.some.inj H
                go_wp2_with (first | ((with_reducible refine gate_callee (f := 34) rfl ?_); refine goesL_ (some 70) rfl rfl Try.func34 (by kernel_rfl) rfl #[.int .i64 t140, .int .i64 t141, .int .i64 x9_17, .bool t143] rfl (by (try simp only [List.map_toArray, List.map_cons, List.map_nil]); first | done | rfl | (simp only [List.length_drop, List.length_take]; rfl)) ?_; (with_reducible refine (snafflelaw01_same.calls t140 t141 x9_17 t143 false _ A21.out).mono ?_); rintro e w' ⟨rfl, ⟨nd, rfl⟩⟩; refine ⟨_, rfl, ?_⟩))
                go_ret
                exact ⟨by first | rfl | (simp [errW_none, errW_some] <;> rfl) | (simp [*, errW_none, errW_some] <;> rfl), by repeat (first | (with_reducible first | exact HB.out | apply below_alloc | apply pw_below_drewN | apply below_drew1) | exact HB.out)⟩
        · replace c15 := Bool.eq_false_iff.mpr c15
          subst c15
          have H1 : (some false) = some r := by rw [if_neg (show ¬ (false = true) by decide)] at H; exact H
          clear H
          have H := H1
          clear H1
          obtain rfl := Option.some.inj H
          go_enter Try.func10, Try.ntmps10
          go_wp2_with (first | ((with_reducible refine gate_callee (f := 31) rfl ?_); refine goesL_ (some 11) rfl rfl Try.func31 (by kernel_rfl) rfl #[] rfl (by (try simp only [List.map_toArray, List.map_cons, List.map_nil]); first | done | rfl | (simp only [List.length_drop, List.length_take]; rfl)) ?_; (with_reducible refine (snafflelaw01_awake.calls k  true _ A4.out).mono ?_); rintro e w30 ⟨rfl, hb⟩; refine ⟨_, rfl, ?_⟩; have n0_ := Aside0.mk (below_step (by repeat (first | (with_reducible first | exact HB.out | apply below_alloc | apply pw_below_drewN | apply below_drew1) | exact HB.out)) hb); clear HB; have HB := n0_; clear n0_; (try clear hb); (try clear hb2); (try clear hk); (try clear hi)) | ((with_reducible refine gate_callee (f := 32) rfl ?_); refine goesL_ (some 19) rfl rfl Try.func32 (by kernel_rfl) rfl #[.int .i64 a0, .int .i64 a1] rfl (by (try simp only [List.map_toArray, List.map_cons, List.map_nil]); first | done | rfl | (simp only [List.length_drop, List.length_take]; rfl)) ?_; (with_reducible refine (num_Add.calls a0 a1 t130 t131 _ A8.out).mono ?_); rintro e w' ⟨rfl, ⟨nd, rfl⟩⟩; refine ⟨_, rfl, ?_⟩) | ((with_reducible refine gate_callee (f := 33) rfl ?_); refine goesL_ (some 25) rfl rfl Try.func33 (by kernel_rfl) rfl #[.int .i64 a0, .int .i64 a1] rfl (by (try simp only [List.map_toArray, List.map_cons, List.map_nil]); first | done | rfl | (simp only [List.length_drop, List.length_take]; rfl)) ?_; (with_reducible refine (snaffleref01_Add.calls a0 a1 t132 t133 _ A9.out).mono ?_); rintro e w' ⟨rfl, ⟨nd, rfl⟩⟩; refine ⟨_, rfl, ?_⟩) | ((with_reducible refine gate_callee (f := 34) rfl ?_); refine goesL_ (some 32) rfl rfl Try.func34 (by kernel_rfl) rfl #[.int .i64 t130, .int .i64 t131, .int .i64 t132, .bool t133] rfl (by (try simp only [List.map_toArray, List.map_cons, List.map_nil]); first | done | rfl | (simp only [List.length_drop, List.length_take]; rfl)) ?_; (with_reducible refine (snafflelaw01_same.calls t130 t131 t132 t133 true _ A10.out).mono ?_); rintro e w' ⟨rfl, ⟨nd, rfl⟩⟩; refine ⟨_, rfl, ?_⟩) | ((with_reducible refine gate_callee (f := 35) rfl ?_); refine goesL_ (some 37) rfl rfl Try.func35 (by kernel_rfl) rfl #[.int .i64 a0, .int .i64 a1] rfl (by (try simp only [List.map_toArray, List.map_cons, List.map_nil]); first | done | rfl | (simp only [List.length_drop, List.length_take]; rfl)) ?_; (with_reducible refine (num_Sub.calls a0 a1 t135 t136 _ A12.out).mono ?_); rintro e w' ⟨rfl, ⟨nd, rfl⟩⟩; refine ⟨_, rfl, ?_⟩) | ((with_reducible refine gate_callee (f := 36) rfl ?_); refine goesL_ (some 43) rfl rfl Try.func36 (by kernel_rfl) rfl #[.int .i64 a0, .int .i64 a1] rfl (by (try simp only [List.map_toArray, List.map_cons, List.map_nil]); first | done | rfl | (simp only [List.length_drop, List.length_take]; rfl)) ?_; (with_reducible refine (snaffleref01_Sub.calls a0 a1 t137 t138 _ A13.out).mono ?_); rintro e w' ⟨rfl, ⟨nd, rfl⟩⟩; refine ⟨_, rfl, ?_⟩) | ((with_reducible refine gate_callee (f := 34) rfl ?_); refine goesL_ (some 50) rfl rfl Try.func34 (by kernel_rfl) rfl #[.int .i64 t135, .int .i64 t136, .int .i64 t137, .bool t138] rfl (by (try simp only [List.map_toArray, List.map_cons, List.map_nil]); first | done | rfl | (simp only [List.length_drop, List.length_take]; rfl)) ?_; (with_reducible refine (snafflelaw01_same.calls t135 t136 t137 t138 false _ A14.out).mono ?_); rintro e w' ⟨rfl, ⟨nd, rfl⟩⟩; refine ⟨_, rfl, ?_⟩))
          go_ret
          exact ⟨by first | rfl | (simp [errW_none, errW_some] <;> rfl) | (simp [*, errW_none, errW_some] <;> rfl), by repeat (first | (with_reducible first | exact HB.out | apply below_alloc | apply pw_below_drewN | apply below_drew1) | exact HB.out)⟩
      · replace c11 := Bool.eq_false_iff.mpr c11
        subst c11
        have H1 : (some false) = some r := by rw [if_neg (show ¬ (false = true) by decide)] at H; exact H
        clear H
        have H := H1
        clear H1
        obtain rfl := Option.some.inj H
        go_enter Try.func10, Try.ntmps10
        go_wp2_with (first | ((with_reducible refine gate_callee (f := 31) rfl ?_); refine goesL_ (some 11) rfl rfl Try.func31 (by kernel_rfl) rfl #[] rfl (by (try simp only [List.map_toArray, List.map_cons, List.map_nil]); first | done | rfl | (simp only [List.length_drop, List.length_take]; rfl)) ?_; (with_reducible refine (snafflelaw01_awake.calls k  true _ A4.out).mono ?_); rintro e w31 ⟨rfl, hb⟩; refine ⟨_, rfl, ?_⟩; have n0_ := Aside0.mk (below_step (by repeat (first | (with_reducible first | exact HB.out | apply below_alloc | apply pw_below_drewN | apply below_drew1) | exact HB.out)) hb); clear HB; have HB := n0_; clear n0_; (try clear hb); (try clear hb2); (try clear hk); (try clear hi)) | ((with_reducible refine gate_callee (f := 32) rfl ?_); refine goesL_ (some 19) rfl rfl Try.func32 (by kernel_rfl) rfl #[.int .i64 a0, .int .i64 a1] rfl (by (try simp only [List.map_toArray, List.map_cons, List.map_nil]); first | done | rfl | (simp only [List.length_drop, List.length_take]; rfl)) ?_; (with_reducible refine (num_Add.calls a0 a1 t130 t131 _ A8.out).mono ?_); rintro e w' ⟨rfl, ⟨nd, rfl⟩⟩; refine ⟨_, rfl, ?_⟩) | ((with_reducible refine gate_callee (f := 33) rfl ?_); refine goesL_ (some 25) rfl rfl Try.func33 (by kernel_rfl) rfl #[.int .i64 a0, .int .i64 a1] rfl (by (try simp only [List.map_toArray, List.map_cons, List.map_nil]); first | done | rfl | (simp only [List.length_drop, List.length_take]; rfl)) ?_; (with_reducible refine (snaffleref01_Add.calls a0 a1 t132 t133 _ A9.out).mono ?_); rintro e w' ⟨rfl, ⟨nd, rfl⟩⟩; refine ⟨_, rfl, ?_⟩) | ((with_reducible refine gate_callee (f := 34) rfl ?_); refine goesL_ (some 32) rfl rfl Try.func34 (by kernel_rfl) rfl #[.int .i64 t130, .int .i64 t131, .int .i64 t132, .bool t133] rfl (by (try simp only [List.map_toArray, List.map_cons, List.map_nil]); first | done | rfl | (simp only [List.length_drop, List.length_take]; rfl)) ?_; (with_reducible refine (snafflelaw01_same.calls t130 t131 t132 t133 false _ A10.out).mono ?_); rintro e w' ⟨rfl, ⟨nd, rfl⟩⟩; refine ⟨_, rfl, ?_⟩))
        go_ret
        exact ⟨by first | rfl | (simp [errW_none, errW_some] <;> rfl) | (simp [*, errW_none, errW_some] <;> rfl), by repeat (first | (with_reducible first | exact HB.out | apply below_alloc | apply pw_below_drewN | apply below_drew1) | exact HB.out)⟩
  · replace c5 := Bool.eq_false_iff.mpr c5
    subst c5
    have H1 : (some false) = some r := by rw [if_neg (show ¬ (false = true) by decide)] at H; exact H
    clear H
    have H := H1
    clear H1
    obtain rfl := Option.some.inj H
    go_enter Try.func10, Try.ntmps10
    go_wp2_with (first | ((with_reducible refine gate_callee (f := 31) rfl ?_); refine goesL_ (some 11) rfl rfl Try.func31 (by kernel_rfl) rfl #[] rfl (by (try simp only [List.map_toArray, List.map_cons, List.map_nil]); first | done | rfl | (simp only [List.length_drop, List.length_take]; rfl)) ?_; (with_reducible refine (snafflelaw01_awake.calls k  false _ A4.out).mono ?_); rintro e w32 ⟨rfl, hb⟩; refine ⟨_, rfl, ?_⟩; have n0_ := Aside0.mk (below_step (by repeat (first | (with_reducible first | exact HB.out | apply below_alloc | apply pw_below_drewN | apply below_drew1) | exact HB.out)) hb); clear HB; have HB := n0_; clear n0_; (try clear hb); (try clear hb2); (try clear hk); (try clear hi)))
    go_ret
    exact ⟨by first | rfl | (simp [errW_none, errW_some] <;> rfl) | (simp [*, errW_none, errW_some] <;> rfl), by repeat (first | (with_reducible first | exact HB.out | apply below_alloc | apply pw_below_drewN | apply below_drew1) | exact HB.out)⟩

/-- THE ONE PURE STATEMENT of snafflelaw01_NumRight: yours. -/
def snafflelaw01_NumRight.Pure : Prop := ∀ (a0 : Int) (a1 : Int) (l2 : List Int), (Lit.int .i64 a0).wf = true → (Lit.int .i64 a1).wf = true → l2.length ≤ maxLen → l2.length * 8 ≤ 140737488351232 → (∀ x ∈ l2, (Lit.int .i64 x).wf = true) → ∃ k, snafflelaw01_NumRight.f k a0 a1 l2 = some true
theorem snafflelaw01_NumRight.walk (P : snafflelaw01_NumRight.Pure) (a0 : Int) (a1 : Int) (a2 : Option Addr) (len2 cap2 : Nat) (z2 : List Int) (w : World) (w0 : (Lit.int .i64 a0).wf = true) (w1 : (Lit.int .i64 a1).wf = true) (w2 : (a2 = none ∧ len2 = 0 ∧ cap2 = 0 ∧ z2 = []) ∨ ∃ x, a2 = some x ∧ len2 ≤ cap2 ∧ cap2 ≤ maxLen ∧ z2.length = cap2 ∧ (∀ i, i < z2.length → w.cell? (x.add i) = some (.int .i64 (z2.getD i 0))) ∧ ∀ n ∈ z2, (Lit.int .i64 n).wf = true) (y2 : len2 * 8 ≤ 140737488351232) :
    Calls Try.prog 10 #[.int .i64 a0, .int .i64 a1, .slice a2 len2 cap2] w fun e w' => e = .returned (.bool true) ∧ Below w.heap.size w w' := by
  obtain ⟨l2, rfl, hr2, hm2, hw2, hc2⟩ := ReadsInt.ofRowC w2
  obtain ⟨k, h⟩ := P a0 a1 l2 w0 w1 hm2 y2 hw2
  refine (snafflelaw01_NumRight.calls k a0 a1 _ _ l2 true w (Kd.C_of_reads (d := (0 : Int)) (h1 := fun _ => rfl) hr2) hc2 h).mono ?_
  rintro e w' ⟨rfl, hd⟩
  exact ⟨rfl, hd⟩

end Go.Proofs.Ytgelpkghkgagfaa.PNumRight
