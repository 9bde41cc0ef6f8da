import Derived.Test.YtgelpkghkgagfaaProg
import Derived.Test.YtgelpkghkgagfaaALj
namespace Go.AI
open Go.Proofs
set_option linter.unusedVariables false
set_option linter.unusedSimpArgs false

def R_arr4_u8 (x : (Arr4 Int)) : Prop := R_u8 x.a0 ∧ R_u8 x.a1 ∧ R_u8 x.a2 ∧ R_u8 x.a3 ∧ True
theorem has_arr4_u8 {ds : List DV} (h : HasSh (.cons (.int .u8) (.cons (.int .u8) (.cons (.int .u8) (.cons (.int .u8) .nil)))) ds) : ∃ x : (Arr4 Int), ds = (e_arr4 e_u8) x ∧ R_arr4_u8 x := by
  obtain ⟨_, _, rfl, _, hf, h⟩ := h
  obtain ⟨x0, rfl, r0⟩ := has_u8 hf
  obtain ⟨_, _, rfl, _, hf, h⟩ := h
  obtain ⟨x1, rfl, r1⟩ := has_u8 hf
  obtain ⟨_, _, rfl, _, hf, h⟩ := h
  obtain ⟨x2, rfl, r2⟩ := has_u8 hf
  obtain ⟨_, _, rfl, _, hf, h⟩ := h
  obtain ⟨x3, rfl, r3⟩ := has_u8 hf
  cases h
  exact ⟨⟨x0, x1, x2, x3⟩, rfl, ⟨r0, r1, r2, r3, trivial⟩⟩
def k43_0 : ACode := (.cond (.t 11) (.region (⟨(some 12), (.p (.mv (.t 0))), none⟩ :: ⟨(some 13), (.p (.bin .xor (.t 12) (.c (.int .u32 3988292384)))), none⟩ :: ⟨(some 0), (.p (.mv (.t 13))), none⟩ :: [])) .skip)
def k43_1 : ACode := (.seq (.region (⟨(some 10), (.p (.mv (.t 3))), none⟩ :: ⟨(some 11), (.p (.bin .eql (.t 10) (.c (.int .u32 1)))), none⟩ :: [])) k43_0)
def k43_2 : ACode := (.seq (.region (⟨(some 8), (.p (.mv (.t 0))), none⟩ :: ⟨(some 9), (.p (.bin .shr (.t 8) (.c (.int .u64 1)))), none⟩ :: ⟨(some 0), (.p (.mv (.t 9))), none⟩ :: [])) k43_1)
def k43_3 : ACode := (.seq (.region (⟨(some 6), (.p (.mv (.t 0))), none⟩ :: ⟨(some 7), (.p (.bin .and (.t 6) (.c (.int .u32 1)))), none⟩ :: ⟨(some 3), (.p (.mv (.t 7))), none⟩ :: [])) k43_2)
def k43_4 : ACode := (.block 1 k43_3)
def k43_5 : ACode := (.seq k43_4 (.region (⟨(some 14), (.p (.bin .add (.t 4) (.c (.int .i64 1)))), none⟩ :: ⟨(some 4), (.p (.mv (.t 14))), none⟩ :: [])))
def k43_6 : ACode := (.seq (.cond (.t 5) .skip (.exit 0)) k43_5)
def k43_7 : ACode := (.seq (.region (⟨(some 5), (.p (.bin .lss (.t 4) (.c (.int .i64 4)))), none⟩ :: [])) k43_6)
def k43_8 : ACode := (.block 0 (.loop k43_7))
def k43_9 : ACode := (.seq (.region (⟨(some 4), (.p (.mv (.c (.int .i64 0)))), none⟩ :: [])) k43_8)
def k43_10 : ACode := (.seq k43_9 (.seq (.region (⟨(some 15), (.p (.mv (.t 0))), none⟩ :: ⟨(some 2), (.p (.mv (.t 15))), none⟩ :: [])) .ret))
def cd43 : ACode := (.seq (.region (⟨(some 2), (.p (.mv (.c (.int .u32 0)))), none⟩ :: [])) k43_10)
def rs43 : List ARes := [(.tmp 2)]
def af43 : AFn := ⟨cd43, rs43, 16⟩
theorem c43 : compF Try.prog 43 = some af43 := by kernel_rfl
noncomputable def g_crc_step (p_n : Int) : Option Int := (Option.bind ((bif ((bits .and .u32 p_n 1) == 1) then (some (bits .xor .u32 (Int.fdiv p_n 2) 3988292384)) else (some (Int.fdiv p_n 2))) : Option (Int)) (fun (j1 : Int) => (Option.bind ((bif ((bits .and .u32 j1 1) == 1) then (some (bits .xor .u32 (Int.fdiv j1 2) 3988292384)) else (some (Int.fdiv j1 2))) : Option (Int)) (fun (j3 : Int) => (Option.bind ((bif ((bits .and .u32 j3 1) == 1) then (some (bits .xor .u32 (Int.fdiv j3 2) 3988292384)) else (some (Int.fdiv j3 2))) : Option (Int)) (fun (j5 : Int) => (Option.bind ((bif ((bits .and .u32 j5 1) == 1) then (some (bits .xor .u32 (Int.fdiv j5 2) 3988292384)) else (some (Int.fdiv j5 2))) : Option (Int)) (fun (j7 : Int) => (some j7)))))))))
noncomputable def sp43 : List DV → Option DV := specT (fun (a : Int) => [.int .u32 a]) (fun (r : Int) => .int .u32 r) (fun (a : Int) => g_crc_step a)
theorem inj43 : ∀ (a b : Int), List.map z1 ((fun (a : Int) => [.int .u32 a]) a) = List.map z1 ((fun (a : Int) => [.int .u32 a]) b) → a = b := by
  intro a0 b0 h
  simp only [List.map_cons, List.map_nil, List.cons.injEq, and_true] at h
  exact (DV.int.inj h).2
set_option maxHeartbeats 1000000 in
theorem w43 {C : FuncId → Con} (hC : ConOk Try.prog C) : ValOk Try.prog 43 sp43 := by
  refine valT_of hC c43 _ _ _ inj43 ?_
  intro p_n
  show Imq (g_crc_step p_n) (fun _ => True) fun r => WP Try.prog C (fun _ => False) cd43 (retQ fun s => outV s rs43 = some (.int .u32 r)) ⟨⟨16, [(0, (.val (.int .u32 p_n)))]⟩, mkH []⟩
  unfold g_crc_step
  refine G_seq ?_
  refine G_region ?_
  refine G_op [0] (v := (.val (.int .u32 0))) (E_p (by kernel_rfl)) rfl rfl ?_
  refine G_nil ?_
  refine G_then ?_
  refine G_seq ?_
  refine G_seq ?_
  refine G_region ?_
  refine G_op [0] (v := (.val (.int .i64 0))) (E_p (by kernel_rfl)) rfl rfl ?_
  refine G_nil ?_
  refine G_then ?_
  refine G_block ?_
  refine G_subW (s0 := ⟨⟨16, [(4, (.val (.int .i64 0))), (2, (.val (.int .u32 0))), (0, (.val (.int .u32 p_n)))]⟩, mkH []⟩) (by exact Sub_env ⟨.refl _, .refl _, .refl _, trivial⟩) ?_
  refine G_loop0 ?_
  refine G_round ?_
  refine G_seq ?_
  refine G_region ?_
  refine G_op [0] (v := (.val (.bool true))) (E_p (by kernel_rfl)) rfl rfl ?_
  refine G_nil ?_
  refine G_then ?_
  refine G_seq ?_
  refine G_condT (by kernel_rfl) ?_
  refine G_skip ?_
  refine G_then ?_
  refine G_seq ?_
  refine G_block ?_
  refine G_seq ?_
  refine G_region ?_
  refine G_op [0] (v := (.val (.int .u32 p_n))) (E_p (by kernel_rfl)) rfl rfl ?_
  refine G_op [0] (v := (.val (.int .u32 (bits .and .u32 p_n 1)))) (E_p (by kernel_rfl)) rfl rfl ?_
  refine G_op [0] (v := (.val (.int .u32 (bits .and .u32 p_n 1)))) (E_p (by kernel_rfl)) rfl rfl ?_
  refine G_nil ?_
  refine G_then ?_
  refine G_seq ?_
  refine G_region ?_
  refine G_op [0] (v := (.val (.int .u32 p_n))) (E_p (by kernel_rfl)) rfl rfl ?_
  refine G_op [0] (v := (.val (.int .u32 (Int.fdiv p_n 2)))) (E_p (by kernel_rfl)) rfl rfl ?_
  refine G_op [0] (v := (.val (.int .u32 (Int.fdiv p_n 2)))) (E_p (by kernel_rfl)) rfl rfl ?_
  refine G_nil ?_
  refine G_then ?_
  refine G_seq ?_
  refine G_region ?_
  refine G_op [0] (v := (.val (.int .u32 (bits .and .u32 p_n 1)))) (E_p (by kernel_rfl)) rfl rfl ?_
  refine G_op [0] (v := (.val (.bool ((bits .and .u32 p_n 1) == 1)))) (E_p (by kernel_rfl)) rfl rfl ?_
  refine G_nil ?_
  refine G_then ?_
  refine G_join (st := fun j1 => ⟨⟨16, [(0, (.val (.int .u32 j1))), (11, (.val (.bool ((bits .and .u32 p_n 1) == 1)))), (10, (.val (.int .u32 (bits .and .u32 p_n 1)))), (9, (.val (.int .u32 (Int.fdiv p_n 2)))), (8, (.val (.int .u32 p_n))), (3, (.val (.int .u32 (bits .and .u32 p_n 1)))), (7, (.val (.int .u32 (bits .and .u32 p_n 1)))), (6, (.val (.int .u32 p_n))), (5, (.val (.bool true))), (4, (.val (.int .i64 0))), (2, (.val (.int .u32 0)))]⟩, mkH []⟩) (fun j1 => ?_) (fun r2 hr2 => ?_)
  · refine G_inB ?_
    refine G_then ?_
    refine G_region ?_
    refine G_op [0] (v := (.val (.int .i64 1))) (E_p (by kernel_rfl)) rfl rfl ?_
    refine G_op [0] (v := (.val (.int .i64 1))) (E_p (by kernel_rfl)) rfl rfl ?_
    refine G_nil ?_
    refine G_then ?_
    refine G_subD (s0 := ⟨⟨16, [(4, (.val (.int .i64 1))), (14, (.val (.int .i64 1))), (0, (.val (.int .u32 j1))), (11, (.val (.bool ((bits .and .u32 p_n 1) == 1)))), (10, (.val (.int .u32 (bits .and .u32 p_n 1)))), (9, (.val (.int .u32 (Int.fdiv p_n 2)))), (8, (.val (.int .u32 p_n))), (3, (.val (.int .u32 (bits .and .u32 p_n 1)))), (7, (.val (.int .u32 (bits .and .u32 p_n 1)))), (6, (.val (.int .u32 p_n))), (5, (.val (.bool true))), (2, (.val (.int .u32 0)))]⟩, mkH []⟩) (by exact Sub_env ⟨.refl _, .refl _, .refl _, .refl _, .refl _, .refl _, .refl _, .refl _, .refl _, .refl _, .refl _, .refl _, trivial⟩) ?_
    refine G_round ?_
    refine G_seq ?_
    refine G_region ?_
    refine G_op [0] (v := (.val (.bool true))) (E_p (by kernel_rfl)) rfl rfl ?_
    refine G_nil ?_
    refine G_then ?_
    refine G_seq ?_
    refine G_condT (by kernel_rfl) ?_
    refine G_skip ?_
    refine G_then ?_
    refine G_seq ?_
    refine G_block ?_
    refine G_seq ?_
    refine G_region ?_
    refine G_op [0] (v := (.val (.int .u32 j1))) (E_p (by kernel_rfl)) rfl rfl ?_
    refine G_op [0] (v := (.val (.int .u32 (bits .and .u32 j1 1)))) (E_p (by kernel_rfl)) rfl rfl ?_
    refine G_op [0] (v := (.val (.int .u32 (bits .and .u32 j1 1)))) (E_p (by kernel_rfl)) rfl rfl ?_
    refine G_nil ?_
    refine G_then ?_
    refine G_seq ?_
    refine G_region ?_
    refine G_op [0] (v := (.val (.int .u32 j1))) (E_p (by kernel_rfl)) rfl rfl ?_
    refine G_op [0] (v := (.val (.int .u32 (Int.fdiv j1 2)))) (E_p (by kernel_rfl)) rfl rfl ?_
    refine G_op [0] (v := (.val (.int .u32 (Int.fdiv j1 2)))) (E_p (by kernel_rfl)) rfl rfl ?_
    refine G_nil ?_
    refine G_then ?_
    refine G_seq ?_
    refine G_region ?_
    refine G_op [0] (v := (.val (.int .u32 (bits .and .u32 j1 1)))) (E_p (by kernel_rfl)) rfl rfl ?_
    refine G_op [0] (v := (.val (.bool ((bits .and .u32 j1 1) == 1)))) (E_p (by kernel_rfl)) rfl rfl ?_
    refine G_nil ?_
    refine G_then ?_
    refine G_join (st := fun j3 => ⟨⟨16, [(0, (.val (.int .u32 j3))), (11, (.val (.bool ((bits .and .u32 j1 1) == 1)))), (10, (.val (.int .u32 (bits .and .u32 j1 1)))), (9, (.val (.int .u32 (Int.fdiv j1 2)))), (8, (.val (.int .u32 j1))), (3, (.val (.int .u32 (bits .and .u32 j1 1)))), (7, (.val (.int .u32 (bits .and .u32 j1 1)))), (6, (.val (.int .u32 j1))), (5, (.val (.bool true))), (4, (.val (.int .i64 1))), (14, (.val (.int .i64 1))), (2, (.val (.int .u32 0)))]⟩, mkH []⟩) (fun j3 => ?_) (fun r4 hr4 => ?_)
    · refine G_inB ?_
      refine G_then ?_
      refine G_region ?_
      refine G_op [0] (v := (.val (.int .i64 2))) (E_p (by kernel_rfl)) rfl rfl ?_
      refine G_op [0] (v := (.val (.int .i64 2))) (E_p (by kernel_rfl)) rfl rfl ?_
      refine G_nil ?_
      refine G_then ?_
      refine G_subD (s0 := ⟨⟨16, [(4, (.val (.int .i64 2))), (14, (.val (.int .i64 2))), (0, (.val (.int .u32 j3))), (11, (.val (.bool ((bits .and .u32 j1 1) == 1)))), (10, (.val (.int .u32 (bits .and .u32 j1 1)))), (9, (.val (.int .u32 (Int.fdiv j1 2)))), (8, (.val (.int .u32 j1))), (3, (.val (.int .u32 (bits .and .u32 j1 1)))), (7, (.val (.int .u32 (bits .and .u32 j1 1)))), (6, (.val (.int .u32 j1))), (5, (.val (.bool true))), (2, (.val (.int .u32 0)))]⟩, mkH []⟩) (by exact Sub_env ⟨.refl _, .refl _, .refl _, .refl _, .refl _, .refl _, .refl _, .refl _, .refl _, .refl _, .refl _, .refl _, trivial⟩) ?_
      refine G_round ?_
      refine G_seq ?_
      refine G_region ?_
      refine G_op [0] (v := (.val (.bool true))) (E_p (by kernel_rfl)) rfl rfl ?_
      refine G_nil ?_
      refine G_then ?_
      refine G_seq ?_
      refine G_condT (by kernel_rfl) ?_
      refine G_skip ?_
      refine G_then ?_
      refine G_seq ?_
      refine G_block ?_
      refine G_seq ?_
      refine G_region ?_
      refine G_op [0] (v := (.val (.int .u32 j3))) (E_p (by kernel_rfl)) rfl rfl ?_
      refine G_op [0] (v := (.val (.int .u32 (bits .and .u32 j3 1)))) (E_p (by kernel_rfl)) rfl rfl ?_
      refine G_op [0] (v := (.val (.int .u32 (bits .and .u32 j3 1)))) (E_p (by kernel_rfl)) rfl rfl ?_
      refine G_nil ?_
      refine G_then ?_
      refine G_seq ?_
      refine G_region ?_
      refine G_op [0] (v := (.val (.int .u32 j3))) (E_p (by kernel_rfl)) rfl rfl ?_
      refine G_op [0] (v := (.val (.int .u32 (Int.fdiv j3 2)))) (E_p (by kernel_rfl)) rfl rfl ?_
      refine G_op [0] (v := (.val (.int .u32 (Int.fdiv j3 2)))) (E_p (by kernel_rfl)) rfl rfl ?_
      refine G_nil ?_
      refine G_then ?_
      refine G_seq ?_
      refine G_region ?_
      refine G_op [0] (v := (.val (.int .u32 (bits .and .u32 j3 1)))) (E_p (by kernel_rfl)) rfl rfl ?_
      refine G_op [0] (v := (.val (.bool ((bits .and .u32 j3 1) == 1)))) (E_p (by kernel_rfl)) rfl rfl ?_
      refine G_nil ?_
      refine G_then ?_
      refine G_join (st := fun j5 => ⟨⟨16, [(0, (.val (.int .u32 j5))), (11, (.val (.bool ((bits .and .u32 j3 1) == 1)))), (10, (.val (.int .u32 (bits .and .u32 j3 1)))), (9, (.val (.int .u32 (Int.fdiv j3 2)))), (8, (.val (.int .u32 j3))), (3, (.val (.int .u32 (bits .and .u32 j3 1)))), (7, (.val (.int .u32 (bits .and .u32 j3 1)))), (6, (.val (.int .u32 j3))), (5, (.val (.bool true))), (4, (.val (.int .i64 2))), (14, (.val (.int .i64 2))), (2, (.val (.int .u32 0)))]⟩, mkH []⟩) (fun j5 => ?_) (fun r6 hr6 => ?_)
      · refine G_inB ?_
        refine G_then ?_
        refine G_region ?_
        refine G_op [0] (v := (.val (.int .i64 3))) (E_p (by kernel_rfl)) rfl rfl ?_
        refine G_op [0] (v := (.val (.int .i64 3))) (E_p (by kernel_rfl)) rfl rfl ?_
        refine G_nil ?_
        refine G_then ?_
        refine G_subD (s0 := ⟨⟨16, [(4, (.val (.int .i64 3))), (14, (.val (.int .i64 3))), (0, (.val (.int .u32 j5))), (11, (.val (.bool ((bits .and .u32 j3 1) == 1)))), (10, (.val (.int .u32 (bits .and .u32 j3 1)))), (9, (.val (.int .u32 (Int.fdiv j3 2)))), (8, (.val (.int .u32 j3))), (3, (.val (.int .u32 (bits .and .u32 j3 1)))), (7, (.val (.int .u32 (bits .and .u32 j3 1)))), (6, (.val (.int .u32 j3))), (5, (.val (.bool true))), (2, (.val (.int .u32 0)))]⟩, mkH []⟩) (by exact Sub_env ⟨.refl _, .refl _, .refl _, .refl _, .refl _, .refl _, .refl _, .refl _, .refl _, .refl _, .refl _, .refl _, trivial⟩) ?_
        refine G_round ?_
        refine G_seq ?_
        refine G_region ?_
        refine G_op [0] (v := (.val (.bool true))) (E_p (by kernel_rfl)) rfl rfl ?_
        refine G_nil ?_
        refine G_then ?_
        refine G_seq ?_
        refine G_condT (by kernel_rfl) ?_
        refine G_skip ?_
        refine G_then ?_
        refine G_seq ?_
        refine G_block ?_
        refine G_seq ?_
        refine G_region ?_
        refine G_op [0] (v := (.val (.int .u32 j5))) (E_p (by kernel_rfl)) rfl rfl ?_
        refine G_op [0] (v := (.val (.int .u32 (bits .and .u32 j5 1)))) (E_p (by kernel_rfl)) rfl rfl ?_
        refine G_op [0] (v := (.val (.int .u32 (bits .and .u32 j5 1)))) (E_p (by kernel_rfl)) rfl rfl ?_
        refine G_nil ?_
        refine G_then ?_
        refine G_seq ?_
        refine G_region ?_
        refine G_op [0] (v := (.val (.int .u32 j5))) (E_p (by kernel_rfl)) rfl rfl ?_
        refine G_op [0] (v := (.val (.int .u32 (Int.fdiv j5 2)))) (E_p (by kernel_rfl)) rfl rfl ?_
        refine G_op [0] (v := (.val (.int .u32 (Int.fdiv j5 2)))) (E_p (by kernel_rfl)) rfl rfl ?_
        refine G_nil ?_
        refine G_then ?_
        refine G_seq ?_
        refine G_region ?_
        refine G_op [0] (v := (.val (.int .u32 (bits .and .u32 j5 1)))) (E_p (by kernel_rfl)) rfl rfl ?_
        refine G_op [0] (v := (.val (.bool ((bits .and .u32 j5 1) == 1)))) (E_p (by kernel_rfl)) rfl rfl ?_
        refine G_nil ?_
        refine G_then ?_
        refine G_join (st := fun j7 => ⟨⟨16, [(0, (.val (.int .u32 j7))), (11, (.val (.bool ((bits .and .u32 j5 1) == 1)))), (10, (.val (.int .u32 (bits .and .u32 j5 1)))), (9, (.val (.int .u32 (Int.fdiv j5 2)))), (8, (.val (.int .u32 j5))), (3, (.val (.int .u32 (bits .and .u32 j5 1)))), (7, (.val (.int .u32 (bits .and .u32 j5 1)))), (6, (.val (.int .u32 j5))), (5, (.val (.bool true))), (4, (.val (.int .i64 3))), (14, (.val (.int .i64 3))), (2, (.val (.int .u32 0)))]⟩, mkH []⟩) (fun j7 => ?_) (fun r8 hr8 => ?_)
        · refine G_inB ?_
          refine G_then ?_
          refine G_region ?_
          refine G_op [0] (v := (.val (.int .i64 4))) (E_p (by kernel_rfl)) rfl rfl ?_
          refine G_op [0] (v := (.val (.int .i64 4))) (E_p (by kernel_rfl)) rfl rfl ?_
          refine G_nil ?_
          refine G_then ?_
          refine G_subD (s0 := ⟨⟨16, [(4, (.val (.int .i64 4))), (14, (.val (.int .i64 4))), (0, (.val (.int .u32 j7))), (11, (.val (.bool ((bits .and .u32 j5 1) == 1)))), (10, (.val (.int .u32 (bits .and .u32 j5 1)))), (9, (.val (.int .u32 (Int.fdiv j5 2)))), (8, (.val (.int .u32 j5))), (3, (.val (.int .u32 (bits .and .u32 j5 1)))), (7, (.val (.int .u32 (bits .and .u32 j5 1)))), (6, (.val (.int .u32 j5))), (5, (.val (.bool true))), (2, (.val (.int .u32 0)))]⟩, mkH []⟩) (by exact Sub_env ⟨.refl _, .refl _, .refl _, .refl _, .refl _, .refl _, .refl _, .refl _, .refl _, .refl _, .refl _, .refl _, trivial⟩) ?_
          refine G_round ?_
          refine G_seq ?_
          refine G_region ?_
          refine G_op [0] (v := (.val (.bool false))) (E_p (by kernel_rfl)) rfl rfl ?_
          refine G_nil ?_
          refine G_then ?_
          refine G_seq ?_
          refine G_condF (by kernel_rfl) ?_
          refine G_exit ?_
          refine G_thenX ?_
          refine G_thenX ?_
          refine G_inBX ?_
          refine G_then ?_
          refine G_subW (s0 := ⟨⟨16, [(0, (.val (.int .u32 j7))), (2, (.val (.int .u32 0)))]⟩, mkH []⟩) (by exact Sub_env ⟨.refl _, .refl _, trivial⟩) ?_
          refine G_seq ?_
          refine G_region ?_
          refine G_op [0] (v := (.val (.int .u32 j7))) (E_p (by kernel_rfl)) rfl rfl ?_
          refine G_op [0] (v := (.val (.int .u32 j7))) (E_p (by kernel_rfl)) rfl rfl ?_
          refine G_nil ?_
          refine G_then ?_
          refine G_ret ?_
          refine G_retR ?_
          refine q_some fun hA => ?_
          show outV _ _ = some _
          kernel_rfl
        · refine G_cond (t := ((bits .and .u32 j5 1) == 1)) (by kernel_rfl) (fun _ => ?_) (fun _ => ?_)
          · refine G_region ?_
            refine G_op [0] (v := (.val (.int .u32 (Int.fdiv j5 2)))) (E_p (by kernel_rfl)) rfl rfl ?_
            refine G_op [0] (v := (.val (.int .u32 (bits .xor .u32 (Int.fdiv j5 2) 3988292384)))) (E_p (by kernel_rfl)) rfl rfl ?_
            refine G_op [0] (v := (.val (.int .u32 (bits .xor .u32 (Int.fdiv j5 2) 3988292384)))) (E_p (by kernel_rfl)) rfl rfl ?_
            refine G_nil ?_
            exact q_some fun h => ((QN_inB QN_then) : QN _ _) _ _ (by exact Sub_env ⟨.refl _, .refl _, .refl _, .refl _, .refl _, .refl _, .refl _, .refl _, .refl _, .refl _, .refl _, .refl _, trivial⟩) h
          · refine G_skip ?_
            exact q_some fun h => ((QN_inB QN_then) : QN _ _) _ _ (by exact Sub_env ⟨.refl _, .refl _, .refl _, .refl _, .refl _, .refl _, .refl _, .refl _, .refl _, .refl _, .refl _, .refl _, trivial⟩) h
      · refine G_cond (t := ((bits .and .u32 j3 1) == 1)) (by kernel_rfl) (fun _ => ?_) (fun _ => ?_)
        · refine G_region ?_
          refine G_op [0] (v := (.val (.int .u32 (Int.fdiv j3 2)))) (E_p (by kernel_rfl)) rfl rfl ?_
          refine G_op [0] (v := (.val (.int .u32 (bits .xor .u32 (Int.fdiv j3 2) 3988292384)))) (E_p (by kernel_rfl)) rfl rfl ?_
          refine G_op [0] (v := (.val (.int .u32 (bits .xor .u32 (Int.fdiv j3 2) 3988292384)))) (E_p (by kernel_rfl)) rfl rfl ?_
          refine G_nil ?_
          exact q_some fun h => ((QN_inB QN_then) : QN _ _) _ _ (by exact Sub_env ⟨.refl _, .refl _, .refl _, .refl _, .refl _, .refl _, .refl _, .refl _, .refl _, .refl _, .refl _, .refl _, trivial⟩) h
        · refine G_skip ?_
          exact q_some fun h => ((QN_inB QN_then) : QN _ _) _ _ (by exact Sub_env ⟨.refl _, .refl _, .refl _, .refl _, .refl _, .refl _, .refl _, .refl _, .refl _, .refl _, .refl _, .refl _, trivial⟩) h
    · refine G_cond (t := ((bits .and .u32 j1 1) == 1)) (by kernel_rfl) (fun _ => ?_) (fun _ => ?_)
      · refine G_region ?_
        refine G_op [0] (v := (.val (.int .u32 (Int.fdiv j1 2)))) (E_p (by kernel_rfl)) rfl rfl ?_
        refine G_op [0] (v := (.val (.int .u32 (bits .xor .u32 (Int.fdiv j1 2) 3988292384)))) (E_p (by kernel_rfl)) rfl rfl ?_
        refine G_op [0] (v := (.val (.int .u32 (bits .xor .u32 (Int.fdiv j1 2) 3988292384)))) (E_p (by kernel_rfl)) rfl rfl ?_
        refine G_nil ?_
        exact q_some fun h => ((QN_inB QN_then) : QN _ _) _ _ (by exact Sub_env ⟨.refl _, .refl _, .refl _, .refl _, .refl _, .refl _, .refl _, .refl _, .refl _, .refl _, .refl _, .refl _, trivial⟩) h
      · refine G_skip ?_
        exact q_some fun h => ((QN_inB QN_then) : QN _ _) _ _ (by exact Sub_env ⟨.refl _, .refl _, .refl _, .refl _, .refl _, .refl _, .refl _, .refl _, .refl _, .refl _, .refl _, .refl _, trivial⟩) h
  · refine G_cond (t := ((bits .and .u32 p_n 1) == 1)) (by kernel_rfl) (fun _ => ?_) (fun _ => ?_)
    · refine G_region ?_
      refine G_op [0] (v := (.val (.int .u32 (Int.fdiv p_n 2)))) (E_p (by kernel_rfl)) rfl rfl ?_
      refine G_op [0] (v := (.val (.int .u32 (bits .xor .u32 (Int.fdiv p_n 2) 3988292384)))) (E_p (by kernel_rfl)) rfl rfl ?_
      refine G_op [0] (v := (.val (.int .u32 (bits .xor .u32 (Int.fdiv p_n 2) 3988292384)))) (E_p (by kernel_rfl)) rfl rfl ?_
      refine G_nil ?_
      exact q_some fun h => ((QN_inB QN_then) : QN _ _) _ _ (by exact Sub_env ⟨.refl _, .refl _, .refl _, .refl _, .refl _, .refl _, .refl _, .refl _, .refl _, .refl _, .refl _, trivial⟩) h
    · refine G_skip ?_
      exact q_some fun h => ((QN_inB QN_then) : QN _ _) _ _ (by exact Sub_env ⟨.refl _, .refl _, .refl _, .refl _, .refl _, .refl _, .refl _, .refl _, .refl _, .refl _, .refl _, trivial⟩) h
theorem s43 (x0 : Int) (ds : List DV) (hd : List.map z1 ds = List.map z1 [.int .u32 x0]) : sp43 ds = (g_crc_step x0).map fun r => .int .u32 r :=
  specT_at (ea := fun (a : Int) => [.int .u32 a]) (eb := fun (r : Int) => .int .u32 r) (g := fun (a : Int) => g_crc_step a) inj43 x0 hd

def k17_0 : ACode := (.region (⟨(some 16), (.p (.mv (.t 5))), none⟩ :: ⟨(some 17), (.p (.mv (.t 7))), none⟩ :: ⟨(some 18), (.p (.conv .u32 (.t 17))), none⟩ :: ⟨(some 19), (.p (.bin .xor (.t 16) (.t 18))), none⟩ :: ⟨(some 5), (.p (.mv (.t 19))), none⟩ :: []))
def k17_1 : ACode := (.region (⟨(some 20), (.p (.mv (.t 5))), none⟩ :: ⟨(some 21), (.p (.bin .and (.t 20) (.c (.int .u32 15)))), none⟩ :: ⟨(some 22), (.r (.call 43 [(.t 21)])), none⟩ :: ⟨(some 23), (.p (.mv (.t 5))), none⟩ :: ⟨(some 24), (.p (.bin .shr (.t 23) (.c (.int .u64 4)))), none⟩ :: ⟨(some 25), (.p (.bin .xor (.t 22) (.t 24))), none⟩ :: ⟨(some 5), (.p (.mv (.t 25))), none⟩ :: []))
def k17_2 : ACode := (.region (⟨(some 26), (.p (.mv (.t 5))), none⟩ :: ⟨(some 27), (.p (.bin .and (.t 26) (.c (.int .u32 15)))), none⟩ :: ⟨(some 28), (.r (.call 43 [(.t 27)])), none⟩ :: ⟨(some 29), (.p (.mv (.t 5))), none⟩ :: ⟨(some 30), (.p (.bin .shr (.t 29) (.c (.int .u64 4)))), none⟩ :: ⟨(some 31), (.p (.bin .xor (.t 28) (.t 30))), none⟩ :: ⟨(some 5), (.p (.mv (.t 31))), none⟩ :: []))
def k17_3 : ACode := (.seq k17_1 k17_2)
def k17_4 : ACode := (.seq k17_0 k17_3)
def k17_5 : ACode := (.seq (.region (⟨(some 14), (.p (.soff 1 (.t 10) (.t 12))), none⟩ :: ⟨(some 15), (.r (.load 1 false (.t 14))), none⟩ :: ⟨(some 7), (.p (.mv (.t 15))), none⟩ :: [])) k17_4)
def k17_6 : ACode := (.block 1 k17_5)
def k17_7 : ACode := (.seq k17_6 (.region (⟨(some 32), (.p (.bin .add (.t 12) (.c (.int .i64 1)))), none⟩ :: ⟨(some 12), (.p (.mv (.t 32))), none⟩ :: [])))
def k17_8 : ACode := (.seq (.cond (.t 13) .skip (.exit 0)) k17_7)
def k17_9 : ACode := (.seq (.region (⟨(some 13), (.p (.bin .lss (.t 12) (.t 11))), none⟩ :: [])) k17_8)
def k17_10 : ACode := (.block 0 (.loop k17_9))
def k17_11 : ACode := (.seq (.region (⟨(some 10), (.p (.mv (.t 1))), none⟩ :: ⟨(some 11), (.p (.len (.t 10))), none⟩ :: ⟨(some 12), (.p (.mv (.c (.int .i64 0)))), none⟩ :: [])) k17_10)
def k17_12 : ACode := (.seq (.region (⟨(some 33), (.p (.mv (.t 5))), none⟩ :: ⟨(some 34), (.p (.un .xor (.t 33))), none⟩ :: ⟨(some 4), (.p (.mv (.t 34))), none⟩ :: [])) .ret)
def k17_13 : ACode := (.seq k17_11 k17_12)
def k17_14 : ACode := (.seq (.region (⟨(some 8), (.p (.mv (.t 0))), none⟩ :: ⟨(some 9), (.p (.un .xor (.t 8))), none⟩ :: ⟨(some 5), (.p (.mv (.t 9))), none⟩ :: [])) k17_13)
def cd17 : ACode := (.seq (.region (⟨(some 4), (.p (.mv (.c (.int .u32 0)))), none⟩ :: [])) k17_14)
def rs17 : List ARes := [(.tmp 4)]
def af17 : AFn := ⟨cd17, rs17, 35⟩
theorem c17 : compF Try.prog 17 = some af17 := by kernel_rfl
noncomputable def g_crc_More_l0 (p_b : (List Int)) (z1 : Int × Int) : Option ((Int × Int) ⊕ (Int)) := (bif (decide (z1.1 < (p_b.length : Int))) then (Option.bind (getO p_b z1.1) fun x4 => (Option.bind (g_crc_step (bits .and .u32 (bits .xor .u32 z1.2 (IntKind.wrap .u32 x4)) 15)) fun v5 => (Option.bind (g_crc_step (bits .and .u32 (bits .xor .u32 v5 (Int.fdiv (bits .xor .u32 z1.2 (IntKind.wrap .u32 x4)) 16)) 15)) fun v6 => (some (.inl ((IntKind.wrap .i64 (z1.1 + 1)), (bits .xor .u32 v6 (Int.fdiv (bits .xor .u32 v5 (Int.fdiv (bits .xor .u32 z1.2 (IntKind.wrap .u32 x4)) 16)) 16)))))))) else (some (.inr z1.2)))
noncomputable def g_crc_More (p_sum : Int) (p_b : (List Int)) : Option Int := (Option.bind (loopO (g_crc_More_l0 p_b) (0, (bits .xor .u32 4294967295 p_sum))) (fun (e2 : Int) => (some (bits .xor .u32 4294967295 e2))))
noncomputable def sp17 : List DV → Option DV := specT (fun (a : Int × (List Int)) => [.int .u32 a.1, .sl 1 (List.map e_u8 a.2)]) (fun (r : Int) => .int .u32 r) (fun (a : Int × (List Int)) => g_crc_More a.1 a.2)
theorem inj17 : ∀ (a b : Int × (List Int)), List.map z1 ((fun (a : Int × (List Int)) => [.int .u32 a.1, .sl 1 (List.map e_u8 a.2)]) a) = List.map z1 ((fun (a : Int × (List Int)) => [.int .u32 a.1, .sl 1 (List.map e_u8 a.2)]) b) → a = b := by
  rintro ⟨a0, a1⟩ ⟨b0, b1⟩ h
  simp only [List.map_cons, List.map_nil, List.cons.injEq, and_true] at h
  obtain ⟨h0, h1⟩ := h
  exact (pair_eq (DV.int.inj h0).2 (map_inj e_u8_inj (z1_sl h1)))
set_option maxHeartbeats 1000000 in
theorem w17 {C : FuncId → Con} (hC : ConOk Try.prog C) {q43 : List DV → Option DV} (hc43 : C 43 = .val q43) (hs43 : ∀ (x0 : Int) (ds : List DV), List.map z1 ds = List.map z1 [.int .u32 x0] → q43 ds = (g_crc_step x0).map fun r => .int .u32 r) : ValOk Try.prog 17 sp17 := by
  refine valT_of hC c17 _ _ _ inj17 ?_
  rintro ⟨p_sum, p_b⟩
  show Imq (g_crc_More p_sum p_b) (fun _ => True) fun r => WP Try.prog C (fun _ => False) cd17 (retQ fun s => outV s rs17 = some (.int .u32 r)) ⟨⟨35, [(0, (.val (.int .u32 p_sum))), (1, (.val (.sl 1 (List.map e_u8 p_b))))]⟩, mkH []⟩
  unfold g_crc_More
  refine G_seq ?_
  refine G_region ?_
  refine G_op [0] (v := (.val (.int .u32 0))) (E_p (by kernel_rfl)) rfl rfl ?_
  refine G_nil ?_
  refine G_then ?_
  refine G_seq ?_
  refine G_region ?_
  refine G_op [0] (v := (.val (.int .u32 p_sum))) (E_p (by kernel_rfl)) rfl rfl ?_
  refine G_op [0] (v := (.val (.int .u32 (bits .xor .u32 4294967295 p_sum)))) (E_p (by kernel_rfl)) rfl rfl ?_
  refine G_op [0] (v := (.val (.int .u32 (bits .xor .u32 4294967295 p_sum)))) (E_p (by kernel_rfl)) rfl rfl ?_
  refine G_nil ?_
  refine G_then ?_
  refine G_seq ?_
  refine G_seq ?_
  refine G_region ?_
  refine G_op [0] (v := (.val (.sl 1 (List.map e_u8 p_b)))) (E_p (by kernel_rfl)) rfl rfl ?_
  refine G_op [0] (v := (.val (.int .i64 (p_b.length : Int)))) (E_len (s := 1) (e := e_u8) (xs := p_b) (by kernel_rfl)) rfl rfl ?_
  refine G_op [0] (v := (.val (.int .i64 0))) (E_p (by kernel_rfl)) rfl rfl ?_
  refine G_nil ?_
  refine G_then ?_
  refine G_loop (enc := fun z1 => ⟨⟨35, [(12, (.val (.int .i64 z1.1))), (11, (.val (.int .i64 (p_b.length : Int)))), (10, (.val (.sl 1 (List.map e_u8 p_b)))), (5, (.val (.int .u32 z1.2))), (4, (.val (.int .u32 0)))]⟩, mkH []⟩) (out := fun e2 => ⟨⟨35, [(5, (.val (.int .u32 e2))), (4, (.val (.int .u32 0)))]⟩, mkH []⟩) (by exact Sub_env ⟨.refl _, .refl _, .refl _, .refl _, .refl _, trivial⟩) (fun e2 => ?_) (fun r3 hr3 R z1 => ?_)
  · refine G_then ?_
    refine G_seq ?_
    refine G_region ?_
    refine G_op [0] (v := (.val (.int .u32 e2))) (E_p (by kernel_rfl)) rfl rfl ?_
    refine G_op [0] (v := (.val (.int .u32 (bits .xor .u32 4294967295 e2)))) (E_p (by kernel_rfl)) rfl rfl ?_
    refine G_op [0] (v := (.val (.int .u32 (bits .xor .u32 4294967295 e2)))) (E_p (by kernel_rfl)) rfl rfl ?_
    refine G_nil ?_
    refine G_then ?_
    refine G_ret ?_
    refine G_retR ?_
    refine q_some fun hA => ?_
    show outV _ _ = some _
    kernel_rfl
  · unfold g_crc_More_l0
    refine G_seq ?_
    refine G_region ?_
    refine G_op [0] (v := (.val (.bool (decide (z1.1 < (p_b.length : Int)))))) (E_p (by kernel_rfl)) rfl rfl ?_
    refine G_nil ?_
    refine G_then ?_
    refine G_seq ?_
    refine G_cond (t := (decide (z1.1 < (p_b.length : Int)))) (by kernel_rfl) (fun _ => ?_) (fun _ => ?_)
    · refine G_skip ?_
      refine G_then ?_
      refine G_seq ?_
      refine G_block ?_
      refine G_seq ?_
      refine G_region ?_
      refine q_bind fun x4 hx4 => ?_
      refine G_op [0] (v := (.val (.pt [(.int .u8 x4)]))) (E_soff (s := 1) (e := e_u8) (xs := p_b) (n := z1.1) (a := x4) (by kernel_rfl) (by kernel_rfl) hx4) rfl rfl ?_
      refine G_op [0] (v := (.val (.int .u8 x4))) (E_load (by kernel_rfl)) rfl rfl ?_
      refine G_op [0] (v := (.val (.int .u8 x4))) (E_p (by kernel_rfl)) rfl rfl ?_
      refine G_nil ?_
      refine G_then ?_
      refine G_seq ?_
      refine G_region ?_
      refine G_op [0] (v := (.val (.int .u32 z1.2))) (E_p (by kernel_rfl)) rfl rfl ?_
      refine G_op [0] (v := (.val (.int .u8 x4))) (E_p (by kernel_rfl)) rfl rfl ?_
      refine G_op [0] (v := (.val (.int .u32 (IntKind.wrap .u32 x4)))) (E_p (by kernel_rfl)) rfl rfl ?_
      refine G_op [0] (v := (.val (.int .u32 (bits .xor .u32 z1.2 (IntKind.wrap .u32 x4))))) (E_p (by kernel_rfl)) rfl rfl ?_
      refine G_op [0] (v := (.val (.int .u32 (bits .xor .u32 z1.2 (IntKind.wrap .u32 x4))))) (E_p (by kernel_rfl)) rfl rfl ?_
      refine G_nil ?_
      refine G_then ?_
      refine G_seq ?_
      refine G_region ?_
      refine G_op [0] (v := (.val (.int .u32 (bits .xor .u32 z1.2 (IntKind.wrap .u32 x4))))) (E_p (by kernel_rfl)) rfl rfl ?_
      refine G_op [0] (v := (.val (.int .u32 (bits .and .u32 (bits .xor .u32 z1.2 (IntKind.wrap .u32 x4)) 15)))) (E_p (by kernel_rfl)) rfl rfl ?_
      refine q_bind fun v5 hv5 => ?_
      refine G_op [0] (v := (.val (.int .u32 v5))) (E_call (ds := [.int .u32 (bits .and .u32 (bits .xor .u32 z1.2 (IntKind.wrap .u32 x4)) 15)]) (r := .int .u32 v5) hc43 (by kernel_rfl) ((hs43 (bits .and .u32 (bits .xor .u32 z1.2 (IntKind.wrap .u32 x4)) 15) _ (by kernel_rfl)).trans (congrArg _ hv5))) rfl rfl ?_
      refine G_op [0] (v := (.val (.int .u32 (bits .xor .u32 z1.2 (IntKind.wrap .u32 x4))))) (E_p (by kernel_rfl)) rfl rfl ?_
      refine G_op [0] (v := (.val (.int .u32 (Int.fdiv (bits .xor .u32 z1.2 (IntKind.wrap .u32 x4)) 16)))) (E_p (by kernel_rfl)) rfl rfl ?_
      refine G_op [0] (v := (.val (.int .u32 (bits .xor .u32 v5 (Int.fdiv (bits .xor .u32 z1.2 (IntKind.wrap .u32 x4)) 16))))) (E_p (by kernel_rfl)) rfl rfl ?_
      refine G_op [0] (v := (.val (.int .u32 (bits .xor .u32 v5 (Int.fdiv (bits .xor .u32 z1.2 (IntKind.wrap .u32 x4)) 16))))) (E_p (by kernel_rfl)) rfl rfl ?_
      refine G_nil ?_
      refine G_then ?_
      refine G_subW (s0 := ⟨⟨35, [(5, (.val (.int .u32 (bits .xor .u32 v5 (Int.fdiv (bits .xor .u32 z1.2 (IntKind.wrap .u32 x4)) 16))))), (12, (.val (.int .i64 z1.1))), (11, (.val (.int .i64 (p_b.length : Int)))), (10, (.val (.sl 1 (List.map e_u8 p_b)))), (4, (.val (.int .u32 0)))]⟩, mkH []⟩) (by exact Sub_env ⟨.refl _, .refl _, .refl _, .refl _, .refl _, trivial⟩) ?_
      refine G_region ?_
      refine G_op [0] (v := (.val (.int .u32 (bits .xor .u32 v5 (Int.fdiv (bits .xor .u32 z1.2 (IntKind.wrap .u32 x4)) 16))))) (E_p (by kernel_rfl)) rfl rfl ?_
      refine G_op [0] (v := (.val (.int .u32 (bits .and .u32 (bits .xor .u32 v5 (Int.fdiv (bits .xor .u32 z1.2 (IntKind.wrap .u32 x4)) 16)) 15)))) (E_p (by kernel_rfl)) rfl rfl ?_
      refine q_bind fun v6 hv6 => ?_
      refine G_op [0] (v := (.val (.int .u32 v6))) (E_call (ds := [.int .u32 (bits .and .u32 (bits .xor .u32 v5 (Int.fdiv (bits .xor .u32 z1.2 (IntKind.wrap .u32 x4)) 16)) 15)]) (r := .int .u32 v6) hc43 (by kernel_rfl) ((hs43 (bits .and .u32 (bits .xor .u32 v5 (Int.fdiv (bits .xor .u32 z1.2 (IntKind.wrap .u32 x4)) 16)) 15) _ (by kernel_rfl)).trans (congrArg _ hv6))) rfl rfl ?_
      refine G_op [0] (v := (.val (.int .u32 (bits .xor .u32 v5 (Int.fdiv (bits .xor .u32 z1.2 (IntKind.wrap .u32 x4)) 16))))) (E_p (by kernel_rfl)) rfl rfl ?_
      refine G_op [0] (v := (.val (.int .u32 (Int.fdiv (bits .xor .u32 v5 (Int.fdiv (bits .xor .u32 z1.2 (IntKind.wrap .u32 x4)) 16)) 16)))) (E_p (by kernel_rfl)) rfl rfl ?_
      refine G_op [0] (v := (.val (.int .u32 (bits .xor .u32 v6 (Int.fdiv (bits .xor .u32 v5 (Int.fdiv (bits .xor .u32 z1.2 (IntKind.wrap .u32 x4)) 16)) 16))))) (E_p (by kernel_rfl)) rfl rfl ?_
      refine G_op [0] (v := (.val (.int .u32 (bits .xor .u32 v6 (Int.fdiv (bits .xor .u32 v5 (Int.fdiv (bits .xor .u32 z1.2 (IntKind.wrap .u32 x4)) 16)) 16))))) (E_p (by kernel_rfl)) rfl rfl ?_
      refine G_nil ?_
      refine G_inB ?_
      refine G_then ?_
      refine G_region ?_
      refine G_op [0] (v := (.val (.int .i64 (IntKind.wrap .i64 (z1.1 + 1))))) (E_p (by kernel_rfl)) rfl rfl ?_
      refine G_op [0] (v := (.val (.int .i64 (IntKind.wrap .i64 (z1.1 + 1))))) (E_p (by kernel_rfl)) rfl rfl ?_
      refine G_nil ?_
      refine G_then ?_
      exact q_some fun h => h _ (by exact Sub_env ⟨.refl _, .refl _, .refl _, .refl _, .refl _, trivial⟩)
    · refine G_exit ?_
      refine G_thenX ?_
      refine G_thenX ?_
      refine G_inBX ?_
      exact q_some fun h => (QN_then : QN _ _) _ _ (by exact Sub_env ⟨.refl _, .refl _, trivial⟩) h
theorem s17 (x0 : Int) (x1 : (List Int)) (ds : List DV) (hd : List.map z1 ds = List.map z1 [.int .u32 x0, .sl 1 (List.map e_u8 x1)]) : sp17 ds = (g_crc_More x0 x1).map fun r => .int .u32 r :=
  specT_at (ea := fun (a : Int × (List Int)) => [.int .u32 a.1, .sl 1 (List.map e_u8 a.2)]) (eb := fun (r : Int) => .int .u32 r) (g := fun (a : Int × (List Int)) => g_crc_More a.1 a.2) inj17 (x0, x1) hd

def k15_0 : ACode := (.seq (.region (⟨(some 3), (.p (.mv (.t 0))), none⟩ :: ⟨(some 4), (.r (.call 17 [(.c (.int .u32 0)), (.t 3)])), none⟩ :: ⟨(some 2), (.p (.mv (.t 4))), none⟩ :: [])) .ret)
def cd15 : ACode := (.seq (.region (⟨(some 2), (.p (.mv (.c (.int .u32 0)))), none⟩ :: [])) k15_0)
def rs15 : List ARes := [(.tmp 2)]
def af15 : AFn := ⟨cd15, rs15, 5⟩
theorem c15 : compF Try.prog 15 = some af15 := by kernel_rfl
noncomputable def g_crc_Sum (p_b : (List Int)) : Option Int := (Option.bind (g_crc_More 0 p_b) fun v1 => (some v1))
noncomputable def sp15 : List DV → Option DV := specT (fun (a : (List Int)) => [.sl 1 (List.map e_u8 a)]) (fun (r : Int) => .int .u32 r) (fun (a : (List Int)) => g_crc_Sum a)
theorem inj15 : ∀ (a b : (List Int)), List.map z1 ((fun (a : (List Int)) => [.sl 1 (List.map e_u8 a)]) a) = List.map z1 ((fun (a : (List Int)) => [.sl 1 (List.map e_u8 a)]) b) → a = b := by
  intro a0 b0 h
  simp only [List.map_cons, List.map_nil, List.cons.injEq, and_true] at h
  exact (map_inj e_u8_inj (z1_sl h))
set_option maxHeartbeats 1000000 in
theorem w15 {C : FuncId → Con} (hC : ConOk Try.prog C) {q17 : List DV → Option DV} (hc17 : C 17 = .val q17) (hs17 : ∀ (x0 : Int) (x1 : (List Int)) (ds : List DV), List.map z1 ds = List.map z1 [.int .u32 x0, .sl 1 (List.map e_u8 x1)] → q17 ds = (g_crc_More x0 x1).map fun r => .int .u32 r) : ValOk Try.prog 15 sp15 := by
  refine valT_of hC c15 _ _ _ inj15 ?_
  intro p_b
  show Imq (g_crc_Sum p_b) (fun _ => True) fun r => WP Try.prog C (fun _ => False) cd15 (retQ fun s => outV s rs15 = some (.int .u32 r)) ⟨⟨5, [(0, (.val (.sl 1 (List.map e_u8 p_b))))]⟩, mkH []⟩
  unfold g_crc_Sum
  refine G_seq ?_
  refine G_region ?_
  refine G_op [0] (v := (.val (.int .u32 0))) (E_p (by kernel_rfl)) rfl rfl ?_
  refine G_nil ?_
  refine G_then ?_
  refine G_seq ?_
  refine G_region ?_
  refine G_op [0] (v := (.val (.sl 1 (List.map e_u8 p_b)))) (E_p (by kernel_rfl)) rfl rfl ?_
  refine q_bind fun v1 hv1 => ?_
  refine G_op [0] (v := (.val (.int .u32 v1))) (E_call (ds := [.int .u32 0, .sl 1 (List.map e_u8 p_b)]) (r := .int .u32 v1) hc17 (by kernel_rfl) ((hs17 0 p_b _ (by kernel_rfl)).trans (congrArg _ hv1))) rfl rfl ?_
  refine G_op [0] (v := (.val (.int .u32 v1))) (E_p (by kernel_rfl)) rfl rfl ?_
  refine G_nil ?_
  refine G_then ?_
  refine G_ret ?_
  refine G_retR ?_
  refine q_some fun hA => ?_
  show outV _ _ = some _
  kernel_rfl
theorem s15 (x0 : (List Int)) (ds : List DV) (hd : List.map z1 ds = List.map z1 [.sl 1 (List.map e_u8 x0)]) : sp15 ds = (g_crc_Sum x0).map fun r => .int .u32 r :=
  specT_at (ea := fun (a : (List Int)) => [.sl 1 (List.map e_u8 a)]) (eb := fun (r : Int) => .int .u32 r) (g := fun (a : (List Int)) => g_crc_Sum a) inj15 x0 hd

def t14_1 : List AIns := (⟨(some 0), (.p (.mv (.t 23))), none⟩ :: [])
def t14_0 : List AIns := (⟨(some 20), (.p (.mv (.t 19))), none⟩ :: ⟨(some 21), (.r (.call 15 [(.c (.nils 0))])), (some (20, true))⟩ :: ⟨(some 22), (.p (.bin .eql (.t 21) (.c (.int .u32 0)))), (some (20, true))⟩ :: ⟨(some 23), (.p (.pick (.t 20) (.t 22) (.c (.bool false)))), none⟩ :: t14_1)
def k14_0 : ACode := (.region (⟨(some 1), (.a (.bsl 1 1 [(.int .u8 0)] [(0, (.c (.int .u8 97)))])), none⟩ :: ⟨(some 2), (.w (.s2s (.t 1))), none⟩ :: ⟨(some 3), (.r (.call 15 [(.t 2)])), none⟩ :: ⟨(some 4), (.a (.bsl 1 1 [(.int .u8 0)] [(0, (.c (.int .u8 98)))])), none⟩ :: ⟨(some 5), (.w (.s2s (.t 4))), none⟩ :: ⟨(some 6), (.r (.call 15 [(.t 5)])), none⟩ :: ⟨(some 7), (.p (.bin .neq (.t 3) (.t 6))), none⟩ :: ⟨(some 8), (.p (.mv (.t 7))), none⟩ :: ⟨(some 9), (.a (.bsl 1 1 [(.int .u8 0)] [(0, (.c (.int .u8 97)))])), (some (8, true))⟩ :: ⟨(some 10), (.w (.s2s (.t 9))), (some (8, true))⟩ :: ⟨(some 11), (.r (.call 15 [(.t 10)])), (some (8, true))⟩ :: ⟨(some 12), (.a (.bsl 1 1 [(.int .u8 0)] [(0, (.c (.int .u8 98)))])), (some (8, true))⟩ :: ⟨(some 13), (.w (.s2s (.t 12))), (some (8, true))⟩ :: ⟨(some 14), (.r (.call 17 [(.t 11), (.t 13)])), (some (8, true))⟩ :: ⟨(some 15), (.a (.bsl 1 2 [(.int .u8 0)] [(0, (.c (.int .u8 97))), (1, (.c (.int .u8 98)))])), (some (8, true))⟩ :: ⟨(some 16), (.w (.s2s (.t 15))), (some (8, true))⟩ :: ⟨(some 17), (.r (.call 15 [(.t 16)])), (some (8, true))⟩ :: ⟨(some 18), (.p (.bin .eql (.t 14) (.t 17))), (some (8, true))⟩ :: ⟨(some 19), (.p (.pick (.t 8) (.t 18) (.c (.bool false)))), none⟩ :: t14_0))
def k14_1 : ACode := (.seq k14_0 .ret)
def cd14 : ACode := (.seq (.region (⟨(some 0), (.p (.mv (.c (.bool false)))), none⟩ :: [])) k14_1)
def rs14 : List ARes := [(.tmp 0)]
def af14 : AFn := ⟨cd14, rs14, 24⟩
theorem c14 : compF Try.prog 14 = some af14 := by kernel_rfl
noncomputable def g_snafflelaw02_awake : Option Bool := (Option.bind (g_crc_Sum [97]) fun v1 => (Option.bind (g_crc_Sum [98]) fun v2 => (Option.bind (bif (v1 != v2) then (Option.bind (g_crc_Sum [97]) fun v10 => (Option.bind (g_crc_More v10 [98]) fun v11 => (Option.bind (g_crc_Sum [97, 98]) fun v12 => (some (v11 == v12))))) else (some false)) fun (b4 : Bool) => (Option.bind (bif b4 then (Option.bind (g_crc_Sum []) fun v9 => (some (v9 == 0))) else (some false)) fun (b7 : Bool) => (some b7)))))
noncomputable def sp14 : List DV → Option DV := specT (fun (_ : Unit) => []) (fun (r : Bool) => .bool r) (fun (_ : Unit) => g_snafflelaw02_awake)
theorem inj14 (a b : Unit) (_ : List.map z1 ((fun (_ : Unit) => []) a) = List.map z1 ((fun (_ : Unit) => []) b)) : a = b := rfl
set_option maxHeartbeats 1000000 in
theorem w14 {C : FuncId → Con} (hC : ConOk Try.prog C) {q15 : List DV → Option DV} (hc15 : C 15 = .val q15) (hs15 : ∀ (x0 : (List Int)) (ds : List DV), List.map z1 ds = List.map z1 [.sl 1 (List.map e_u8 x0)] → q15 ds = (g_crc_Sum x0).map fun r => .int .u32 r) {q17 : List DV → Option DV} (hc17 : C 17 = .val q17) (hs17 : ∀ (x0 : Int) (x1 : (List Int)) (ds : List DV), List.map z1 ds = List.map z1 [.int .u32 x0, .sl 1 (List.map e_u8 x1)] → q17 ds = (g_crc_More x0 x1).map fun r => .int .u32 r) : ValOk Try.prog 14 sp14 := by
  refine valT_of hC c14 _ _ _ inj14 ?_
  rintro ⟨⟩
  show Imq (g_snafflelaw02_awake) (fun _ => True) fun r => WP Try.prog C (fun _ => False) cd14 (retQ fun s => outV s rs14 = some (.bool r)) ⟨⟨24, []⟩, mkH []⟩
  unfold g_snafflelaw02_awake
  refine G_seq ?_
  refine G_region ?_
  refine G_op [0] (v := (.val (.bool false))) (E_p (by kernel_rfl)) rfl rfl ?_
  refine G_nil ?_
  refine G_then ?_
  refine G_seq ?_
  refine G_region ?_
  refine G_op [1001] (v := (.row [1001] 1 0 1)) (E_a (u := (.row [1001] 1 0 1)) (b := (.row 1 (List.map e_u8 [97]))) (h' := [([1001], (.row 1 (List.map e_u8 [97])))]) (by kernel_rfl) (by kernel_rfl) (by kernel_rfl)) rfl rfl ?_
  refine G_op [0] (v := (.row [1001] 1 0 1)) (E_s2s (es := List.map e_u8 [97]) (h' := [([1001], (.frow 1 (List.map e_u8 [97])))]) (by kernel_rfl) (by kernel_rfl) (by decide) (by kernel_rfl)) rfl rfl ?_
  refine q_bind fun v1 hv1 => ?_
  refine G_op [0] (v := (.val (.int .u32 v1))) (E_callF (ds := [.sl 1 (List.map e_u8 [97])]) (ids := []) (r := .int .u32 v1) hc15 (A_cons (A_frow (xs := [97]) (e := e_u8) (by kernel_rfl) (by first | rfl | simp)) A_nil) ((hs15 [97] _ (by kernel_rfl)).trans (congrArg _ hv1)) (by kernel_rfl)) rfl rfl ?_
  refine G_op [1002] (v := (.row [1002] 1 0 1)) (E_a (u := (.row [1002] 1 0 1)) (b := (.row 1 (List.map e_u8 [98]))) (h' := [([1001], (.frow 1 (List.map e_u8 [97]))), ([1002], (.row 1 (List.map e_u8 [98])))]) (by kernel_rfl) (by kernel_rfl) (by kernel_rfl)) rfl rfl ?_
  refine G_op [0] (v := (.row [1002] 1 0 1)) (E_s2s (es := List.map e_u8 [98]) (h' := [([1001], (.frow 1 (List.map e_u8 [97]))), ([1002], (.frow 1 (List.map e_u8 [98])))]) (by kernel_rfl) (by kernel_rfl) (by decide) (by kernel_rfl)) rfl rfl ?_
  refine q_bind fun v2 hv2 => ?_
  refine G_op [0] (v := (.val (.int .u32 v2))) (E_callF (ds := [.sl 1 (List.map e_u8 [98])]) (ids := []) (r := .int .u32 v2) hc15 (A_cons (A_frow (xs := [98]) (e := e_u8) (by kernel_rfl) (by first | rfl | simp)) A_nil) ((hs15 [98] _ (by kernel_rfl)).trans (congrArg _ hv2)) (by kernel_rfl)) rfl rfl ?_
  refine G_op [0] (v := (.val (.bool (v1 != v2)))) (E_p (by kernel_rfl)) rfl rfl ?_
  refine G_op [0] (v := (.val (.bool (v1 != v2)))) (E_p (by kernel_rfl)) rfl rfl ?_
  refine G_joinR (l := t14_0) (st := fun (b4 : Bool) => ⟨⟨24, [(19, (.val (.bool b4))), (0, (.val (.bool false)))]⟩, mkH []⟩) (fun b4 => ?_) (fun r5 hr5 => ?_)
  · refine G_op [0] (v := (.val (.bool b4))) (E_p (by kernel_rfl)) rfl rfl ?_
    refine G_joinR (l := t14_1) (st := fun (b7 : Bool) => ⟨⟨24, [(23, (.val (.bool b7))), (0, (.val (.bool false)))]⟩, mkH []⟩) (fun b7 => ?_) (fun r8 hr8 => ?_)
    · refine G_op [0] (v := (.val (.bool b7))) (E_p (by kernel_rfl)) rfl rfl ?_
      refine G_nil ?_
      refine G_then ?_
      refine G_ret ?_
      refine G_retR ?_
      refine q_some fun hA => ?_
      show outV _ _ = some _
      kernel_rfl
    · refine q_bif (fun h6 => ?_) (fun h6 => ?_)
      · refine G_subR (Sub_lit (t := 20) (v := true) rfl h6) ?_
        refine q_bind fun v9 hv9 => ?_
        refine G_op [0] (v := (.val (.int .u32 v9))) (E_call (ds := [.sl 0 []]) (r := .int .u32 v9) hc15 (by kernel_rfl) ((hs15 [] _ (by kernel_rfl)).trans (congrArg _ hv9))) rfl rfl ?_
        refine G_op [0] (v := (.val (.bool (v9 == 0)))) (E_p (by kernel_rfl)) rfl rfl ?_
        refine G_op [0] (v := (.val (.bool (v9 == 0)))) (E_p (by kernel_rfl)) rfl rfl ?_
        exact q_some fun h => RP_sub (by exact Sub_env ⟨.refl _, .refl _, trivial⟩) h
      · refine G_subR (Sub_lit (t := 20) (v := false) rfl h6) ?_
        refine G_off rfl rfl ?_
        refine G_off rfl rfl ?_
        refine G_op [0] (v := (.val (.bool false))) (E_p (by kernel_rfl)) rfl rfl ?_
        exact q_some fun h => RP_sub (by exact Sub_env ⟨.refl _, .refl _, trivial⟩) h
  · refine q_bif (fun h3 => ?_) (fun h3 => ?_)
    · refine G_subR (Sub_lit (t := 8) (v := true) rfl h3) ?_
      refine G_op [1006] (v := (.row [1006] 1 0 1)) (E_a (u := (.row [1006] 1 0 1)) (b := (.row 1 (List.map e_u8 [97]))) (h' := [([1001], (.frow 1 (List.map e_u8 [97]))), ([1002], (.frow 1 (List.map e_u8 [98]))), ([1006], (.row 1 (List.map e_u8 [97])))]) (by kernel_rfl) (by kernel_rfl) (by kernel_rfl)) rfl rfl ?_
      refine G_op [0] (v := (.row [1006] 1 0 1)) (E_s2s (es := List.map e_u8 [97]) (h' := [([1001], (.frow 1 (List.map e_u8 [97]))), ([1002], (.frow 1 (List.map e_u8 [98]))), ([1006], (.frow 1 (List.map e_u8 [97])))]) (by kernel_rfl) (by kernel_rfl) (by decide) (by kernel_rfl)) rfl rfl ?_
      refine q_bind fun v10 hv10 => ?_
      refine G_op [0] (v := (.val (.int .u32 v10))) (E_callF (ds := [.sl 1 (List.map e_u8 [97])]) (ids := []) (r := .int .u32 v10) hc15 (A_cons (A_frow (xs := [97]) (e := e_u8) (by kernel_rfl) (by first | rfl | simp)) A_nil) ((hs15 [97] _ (by kernel_rfl)).trans (congrArg _ hv10)) (by kernel_rfl)) rfl rfl ?_
      refine G_op [1007] (v := (.row [1007] 1 0 1)) (E_a (u := (.row [1007] 1 0 1)) (b := (.row 1 (List.map e_u8 [98]))) (h' := [([1001], (.frow 1 (List.map e_u8 [97]))), ([1002], (.frow 1 (List.map e_u8 [98]))), ([1006], (.frow 1 (List.map e_u8 [97]))), ([1007], (.row 1 (List.map e_u8 [98])))]) (by kernel_rfl) (by kernel_rfl) (by kernel_rfl)) rfl rfl ?_
      refine G_op [0] (v := (.row [1007] 1 0 1)) (E_s2s (es := List.map e_u8 [98]) (h' := [([1001], (.frow 1 (List.map e_u8 [97]))), ([1002], (.frow 1 (List.map e_u8 [98]))), ([1006], (.frow 1 (List.map e_u8 [97]))), ([1007], (.frow 1 (List.map e_u8 [98])))]) (by kernel_rfl) (by kernel_rfl) (by decide) (by kernel_rfl)) rfl rfl ?_
      refine q_bind fun v11 hv11 => ?_
      refine G_op [0] (v := (.val (.int .u32 v11))) (E_callF (ds := [.int .u32 v10, .sl 1 (List.map e_u8 [98])]) (ids := []) (r := .int .u32 v11) hc17 (A_cons (A_val (by kernel_rfl)) (A_cons (A_frow (xs := [98]) (e := e_u8) (by kernel_rfl) (by first | rfl | simp)) A_nil)) ((hs17 v10 [98] _ (by kernel_rfl)).trans (congrArg _ hv11)) (by kernel_rfl)) rfl rfl ?_
      refine G_op [1008] (v := (.row [1008] 1 0 2)) (E_a (u := (.row [1008] 1 0 2)) (b := (.row 1 (List.map e_u8 [97, 98]))) (h' := [([1001], (.frow 1 (List.map e_u8 [97]))), ([1002], (.frow 1 (List.map e_u8 [98]))), ([1006], (.frow 1 (List.map e_u8 [97]))), ([1007], (.frow 1 (List.map e_u8 [98]))), ([1008], (.row 1 (List.map e_u8 [97, 98])))]) (by kernel_rfl) (by kernel_rfl) (by kernel_rfl)) rfl rfl ?_
      refine G_op [0] (v := (.row [1008] 1 0 2)) (E_s2s (es := List.map e_u8 [97, 98]) (h' := [([1001], (.frow 1 (List.map e_u8 [97]))), ([1002], (.frow 1 (List.map e_u8 [98]))), ([1006], (.frow 1 (List.map e_u8 [97]))), ([1007], (.frow 1 (List.map e_u8 [98]))), ([1008], (.frow 1 (List.map e_u8 [97, 98])))]) (by kernel_rfl) (by kernel_rfl) (by decide) (by kernel_rfl)) rfl rfl ?_
      refine q_bind fun v12 hv12 => ?_
      refine G_op [0] (v := (.val (.int .u32 v12))) (E_callF (ds := [.sl 1 (List.map e_u8 [97, 98])]) (ids := []) (r := .int .u32 v12) hc15 (A_cons (A_frow (xs := [97, 98]) (e := e_u8) (by kernel_rfl) (by first | rfl | simp)) A_nil) ((hs15 [97, 98] _ (by kernel_rfl)).trans (congrArg _ hv12)) (by kernel_rfl)) rfl rfl ?_
      refine G_op [0] (v := (.val (.bool (v11 == v12)))) (E_p (by kernel_rfl)) rfl rfl ?_
      refine G_op [0] (v := (.val (.bool (v11 == v12)))) (E_p (by kernel_rfl)) rfl rfl ?_
      exact q_some fun h => RP_sub (by exact Sub_keep ⟨.refl _, .refl _, trivial⟩ trivial (by kernel_rfl) (by kernel_rfl)) h
    · refine G_subR (Sub_lit (t := 8) (v := false) rfl h3) ?_
      refine G_off rfl rfl ?_
      refine G_off rfl rfl ?_
      refine G_off rfl rfl ?_
      refine G_off rfl rfl ?_
      refine G_off rfl rfl ?_
      refine G_off rfl rfl ?_
      refine G_off rfl rfl ?_
      refine G_off rfl rfl ?_
      refine G_off rfl rfl ?_
      refine G_off rfl rfl ?_
      refine G_op [0] (v := (.val (.bool false))) (E_p (by kernel_rfl)) rfl rfl ?_
      exact q_some fun h => RP_sub (by exact Sub_keep ⟨.refl _, .refl _, trivial⟩ trivial (by kernel_rfl) (by kernel_rfl)) h
theorem s14 (ds : List DV) (hd : List.map z1 ds = List.map z1 []) : sp14 ds = (g_snafflelaw02_awake).map fun r => .bool r :=
  specT_at (ea := fun (_ : Unit) => []) (eb := fun (r : Bool) => .bool r) (g := fun (_ : Unit) => g_snafflelaw02_awake) inj14 () hd

def t5_0 : List AIns := (⟨(some 9), (.p (.mv (.t 62))), none⟩ :: [])
def k5_0 : ACode := (.seq (.region (⟨(some 11), (.r (.call 14 [])), none⟩ :: ⟨(some 12), (.p (.un .not (.t 11))), none⟩ :: [])) (.cond (.t 12) (.seq (.region (⟨(some 6), (.p (.mv (.c (.bool false)))), none⟩ :: [])) .ret) .skip))
def k5_1 : ACode := (.region (⟨(some 13), (.p (.mv (.t 0))), none⟩ :: ⟨(some 14), (.p (.len (.t 13))), none⟩ :: ⟨(some 15), (.p (.bin .gtr (.t 14) (.c (.int .i64 2000)))), none⟩ :: ⟨(some 16), (.p (.mv (.t 15))), none⟩ :: ⟨(some 17), (.p (.mv (.t 0))), (some (16, false))⟩ :: ⟨(some 18), (.p (.len (.t 17))), (some (16, false))⟩ :: ⟨(some 19), (.p (.bin .eql (.t 18) (.c (.int .i64 0)))), (some (16, false))⟩ :: ⟨(some 20), (.p (.pick (.t 16) (.c (.bool true)) (.t 19))), none⟩ :: []))
def k5_2 : ACode := (.seq k5_1 (.cond (.t 20) (.seq (.region (⟨(some 6), (.p (.mv (.c (.bool true)))), none⟩ :: [])) .ret) .skip))
def k5_3 : ACode := (.region (⟨(some 21), (.p (.mv (.t 1))), none⟩ :: ⟨(some 22), (.p (.conv .i64 (.t 21))), none⟩ :: ⟨(some 23), (.p (.mv (.t 0))), none⟩ :: ⟨(some 24), (.p (.len (.t 23))), none⟩ :: ⟨(some 25), (.p (.bin .rem (.t 22) (.t 24))), none⟩ :: ⟨(some 7), (.p (.mv (.t 25))), none⟩ :: []))
def k5_4 : ACode := (.region (⟨(some 26), (.a (.bsl 1 0 [(.int .u8 0)] [])), none⟩ :: ⟨(some 27), (.p (.mv (.t 0))), none⟩ :: ⟨(some 28), (.w (.app 1 1 false (.t 26) (.t 27))), none⟩ :: ⟨(some 8), (.p (.mv (.t 28))), none⟩ :: []))
def k5_5 : ACode := (.region (⟨(some 29), (.p (.mv (.t 10))), none⟩ :: ⟨(some 30), (.p (.bin .lss (.t 29) (.c (.int .i64 4)))), none⟩ :: ⟨(some 31), (.p (.mv (.t 30))), none⟩ :: ⟨(some 32), (.p (.mv (.t 7))), (some (31, true))⟩ :: ⟨(some 33), (.p (.mv (.t 10))), (some (31, true))⟩ :: ⟨(some 34), (.p (.bin .add (.t 32) (.t 33))), (some (31, true))⟩ :: ⟨(some 35), (.p (.mv (.t 0))), (some (31, true))⟩ :: ⟨(some 36), (.p (.len (.t 35))), (some (31, true))⟩ :: ⟨(some 37), (.p (.bin .lss (.t 34) (.t 36))), (some (31, true))⟩ :: ⟨(some 38), (.p (.pick (.t 31) (.t 37) (.c (.bool false)))), none⟩ :: []))
def k5_6 : ACode := (.seq k5_5 (.cond (.t 38) .skip (.exit 0)))
def k5_7 : ACode := (.draw (⟨(some 41), (.p (.mv (.t 8))), none⟩ :: ⟨(some 42), (.p (.mv (.t 7))), none⟩ :: ⟨(some 43), (.p (.mv (.t 10))), none⟩ :: ⟨(some 44), (.p (.bin .add (.t 42) (.t 43))), none⟩ :: ⟨(some 45), (.p (.mv (.t 0))), none⟩ :: ⟨(some 46), (.p (.mv (.t 7))), none⟩ :: ⟨(some 47), (.p (.mv (.t 10))), none⟩ :: ⟨(some 48), (.p (.bin .add (.t 46) (.t 47))), none⟩ :: ⟨(some 49), (.p (.soff 1 (.t 45) (.t 48))), none⟩ :: ⟨(some 50), (.r (.load 1 false (.t 49))), none⟩ :: ⟨(some 51), (.p (.mv (.t 10))), none⟩ :: ⟨(some 52), (.p (.aoff 4 1 (.t 5) (.t 51))), none⟩ :: ⟨(some 53), (.r (.load 1 false (.t 52))), none⟩ :: ⟨(some 54), (.p (.bin .xor (.t 50) (.t 53))), none⟩ :: ⟨(some 55), (.p (.soff 1 (.t 41) (.t 44))), none⟩ :: ⟨none, (.w (.store 1 (.t 55) (.t 54))), none⟩ :: []))
def k5_8 : ACode := (.region (⟨(some 56), (.p (.mv (.t 9))), none⟩ :: ⟨(some 57), (.p (.mv (.t 56))), none⟩ :: ⟨(some 58), (.p (.mv (.t 10))), (some (57, false))⟩ :: ⟨(some 59), (.p (.aoff 4 1 (.t 5) (.t 58))), (some (57, false))⟩ :: ⟨(some 60), (.r (.load 1 false (.t 59))), (some (57, false))⟩ :: ⟨(some 61), (.p (.bin .neq (.t 60) (.c (.int .u8 0)))), (some (57, false))⟩ :: ⟨(some 62), (.p (.pick (.t 57) (.c (.bool true)) (.t 61))), none⟩ :: t5_0))
def k5_9 : ACode := (.seq k5_7 k5_8)
def k5_10 : ACode := (.block 1 k5_9)
def k5_11 : ACode := (.seq k5_10 (.region (⟨(some 39), (.p (.mv (.t 10))), none⟩ :: ⟨(some 40), (.p (.bin .add (.t 39) (.c (.int .i64 1)))), none⟩ :: ⟨(some 10), (.p (.mv (.t 40))), none⟩ :: [])))
def k5_12 : ACode := (.seq k5_6 k5_11)
def k5_13 : ACode := (.block 0 (.loop k5_12))
def k5_14 : ACode := (.seq (.region (⟨(some 10), (.p (.mv (.c (.int .i64 0)))), none⟩ :: [])) k5_13)
def k5_15 : ACode := (.region (⟨(some 63), (.p (.mv (.t 8))), none⟩ :: ⟨(some 64), (.r (.call 15 [(.t 63)])), none⟩ :: ⟨(some 65), (.p (.mv (.t 0))), none⟩ :: ⟨(some 66), (.r (.call 15 [(.t 65)])), none⟩ :: ⟨(some 67), (.p (.bin .eql (.t 64) (.t 66))), none⟩ :: ⟨(some 68), (.p (.mv (.t 9))), none⟩ :: ⟨(some 69), (.p (.un .not (.t 68))), none⟩ :: ⟨(some 70), (.p (.eqb false (.t 67) (.t 69))), none⟩ :: ⟨(some 6), (.p (.mv (.t 70))), none⟩ :: []))
def k5_16 : ACode := (.seq k5_15 .ret)
def k5_17 : ACode := (.seq k5_14 k5_16)
def k5_18 : ACode := (.seq (.region (⟨(some 9), (.p (.mv (.c (.bool false)))), none⟩ :: [])) k5_17)
def k5_19 : ACode := (.seq k5_4 k5_18)
def k5_20 : ACode := (.seq k5_3 k5_19)
def k5_21 : ACode := (.seq k5_2 k5_20)
def k5_22 : ACode := (.seq k5_0 k5_21)
def cd5 : ACode := (.seq (.region (⟨(some 5), (.a (.bx (.t 2))), none⟩ :: ⟨(some 6), (.p (.mv (.c (.bool false)))), none⟩ :: [])) k5_22)
def rs5 : List ARes := [(.tmp 6)]
def af5 : AFn := ⟨cd5, rs5, 71⟩
theorem c5 : compF Try.prog 5 = some af5 := by kernel_rfl
noncomputable def g_snafflelaw02_CrcBurst_l0 (p_b : (List Int)) (p_at : Int) (p_by : (Arr4 Int)) (z7 : Int × Bool × (List Int)) : Option ((Int × Bool × (List Int)) ⊕ (Bool × (List Int))) := (bif ((decide (z7.1 < 4)) && (decide ((IntKind.wrap .i64 ((Int.tmod (IntKind.wrap .i64 p_at) (p_b.length : Int)) + z7.1)) < (p_b.length : Int)))) then (Option.bind (getO p_b (IntKind.wrap .i64 ((Int.tmod (IntKind.wrap .i64 p_at) (p_b.length : Int)) + z7.1))) fun x13 => (Option.bind (getO [p_by.a0, p_by.a1, p_by.a2, p_by.a3] z7.1) fun x14 => (Option.bind (getO z7.2.2 (IntKind.wrap .i64 ((Int.tmod (IntKind.wrap .i64 p_at) (p_b.length : Int)) + z7.1))) fun x15 => (Option.bind (bif z7.2.1 then (some true) else (Option.bind (getO [p_by.a0, p_by.a1, p_by.a2, p_by.a3] z7.1) fun x19 => (some (x19 != 0)))) fun (b17 : Bool) => (some (.inl ((IntKind.wrap .i64 (z7.1 + 1)), b17, (List.set z7.2.2 (Int.toNat (IntKind.wrap .i64 ((Int.tmod (IntKind.wrap .i64 p_at) (p_b.length : Int)) + z7.1))) (bits .xor .u8 x13 x14))))))))) else (some (.inr (z7.2.1, z7.2.2))))
noncomputable def g_snafflelaw02_CrcBurst (p_b : (List Int)) (p_at : Int) (p_by : (Arr4 Int)) : Option Bool := (Option.bind (g_snafflelaw02_awake) fun v1 => (bif (!v1) then (some false) else (bif ((decide ((p_b.length : Int) > 2000)) || ((p_b.length : Int) == 0)) then (some true) else (if ¬ (p_b.length : Int) = 0 then (if (room 1 (0 + (List.length p_b))) then (Option.bind (loopO (g_snafflelaw02_CrcBurst_l0 p_b p_at p_by) (0, false, p_b)) (fun (e8 : Bool × (List Int)) => (Option.bind (g_crc_Sum e8.2) fun v20 => (Option.bind (g_crc_Sum p_b) fun v21 => (some ((v20 == v21) == (!e8.1))))))) else none) else none))))
noncomputable def sp5 : List DV → Option DV := specT (fun (a : (List Int) × Int × (Arr4 Int)) => [.sl 1 (List.map e_u8 a.1), .int .u16 a.2.1, .agg ((e_arr4 e_u8) a.2.2)]) (fun (r : Bool) => .bool r) (fun (a : (List Int) × Int × (Arr4 Int)) => g_snafflelaw02_CrcBurst a.1 a.2.1 a.2.2)
theorem inj5 : ∀ (a b : (List Int) × Int × (Arr4 Int)), List.map z1 ((fun (a : (List Int) × Int × (Arr4 Int)) => [.sl 1 (List.map e_u8 a.1), .int .u16 a.2.1, .agg ((e_arr4 e_u8) a.2.2)]) a) = List.map z1 ((fun (a : (List Int) × Int × (Arr4 Int)) => [.sl 1 (List.map e_u8 a.1), .int .u16 a.2.1, .agg ((e_arr4 e_u8) a.2.2)]) b) → a = b := by
  rintro ⟨a0, a1, a2⟩ ⟨b0, b1, b2⟩ h
  simp only [List.map_cons, List.map_nil, List.cons.injEq, and_true] at h
  obtain ⟨h0, h1, h2⟩ := h
  exact (pair_eq (map_inj e_u8_inj (z1_sl h0)) (pair_eq (DV.int.inj h1).2 ((arr4_u8_inj) (DV.agg.inj h2))))
set_option maxHeartbeats 1000000 in
theorem w5 {C : FuncId → Con} (hC : ConOk Try.prog C) {q14 : List DV → Option DV} (hc14 : C 14 = .val q14) (hs14 : ∀ (ds : List DV), List.map z1 ds = List.map z1 [] → q14 ds = (g_snafflelaw02_awake).map fun r => .bool r) {q15 : List DV → Option DV} (hc15 : C 15 = .val q15) (hs15 : ∀ (x0 : (List Int)) (ds : List DV), List.map z1 ds = List.map z1 [.sl 1 (List.map e_u8 x0)] → q15 ds = (g_crc_Sum x0).map fun r => .int .u32 r) : ValOk Try.prog 5 sp5 := by
  refine valT_of hC c5 _ _ _ inj5 ?_
  rintro ⟨p_b, p_at, p_by⟩
  show Imq (g_snafflelaw02_CrcBurst p_b p_at p_by) (fun _ => True) fun r => WP Try.prog C (fun _ => False) cd5 (retQ fun s => outV s rs5 = some (.bool r)) ⟨⟨71, [(0, (.val (.sl 1 (List.map e_u8 p_b)))), (1, (.val (.int .u16 p_at))), (2, (.val (.agg [(.int .u8 p_by.a0), (.int .u8 p_by.a1), (.int .u8 p_by.a2), (.int .u8 p_by.a3)])))]⟩, mkH []⟩
  unfold g_snafflelaw02_CrcBurst
  refine G_seq ?_
  refine G_region ?_
  refine G_op [1001] (v := (.box [1001] 0)) (E_a (u := (.box [1001] 0)) (b := (.box [(.val (.int .u8 p_by.a0)), (.val (.int .u8 p_by.a1)), (.val (.int .u8 p_by.a2)), (.val (.int .u8 p_by.a3))])) (h' := [([1001], (.box [(.val (.int .u8 p_by.a0)), (.val (.int .u8 p_by.a1)), (.val (.int .u8 p_by.a2)), (.val (.int .u8 p_by.a3))]))]) (by kernel_rfl) (by kernel_rfl) (by kernel_rfl)) rfl rfl ?_
  refine G_op [0] (v := (.val (.bool false))) (E_p (by kernel_rfl)) rfl rfl ?_
  refine G_nil ?_
  refine G_then ?_
  refine G_seq ?_
  refine G_seq ?_
  refine G_region ?_
  refine q_bind fun v1 hv1 => ?_
  refine G_op [0] (v := (.val (.bool v1))) (E_call (ds := []) (r := .bool v1) hc14 (by kernel_rfl) ((hs14 _ (by kernel_rfl)).trans (congrArg _ hv1))) rfl rfl ?_
  refine G_op [0] (v := (.val (.bool (!v1)))) (E_p (by kernel_rfl)) rfl rfl ?_
  refine G_nil ?_
  refine G_then ?_
  refine G_cond (t := (!v1)) (by kernel_rfl) (fun _ => ?_) (fun _ => ?_)
  · refine G_seq ?_
    refine G_region ?_
    refine G_op [0] (v := (.val (.bool false))) (E_p (by kernel_rfl)) rfl rfl ?_
    refine G_nil ?_
    refine G_then ?_
    refine G_ret ?_
    refine G_thenR ?_
    refine G_retR ?_
    refine q_some fun hA => ?_
    show outV _ _ = some _
    kernel_rfl
  · refine G_skip ?_
    refine G_then ?_
    refine G_seq ?_
    refine G_seq ?_
    refine G_region ?_
    refine G_op [0] (v := (.val (.sl 1 (List.map e_u8 p_b)))) (E_p (by kernel_rfl)) rfl rfl ?_
    refine G_op [0] (v := (.val (.int .i64 (p_b.length : Int)))) (E_len (s := 1) (e := e_u8) (xs := p_b) (by kernel_rfl)) rfl rfl ?_
    refine G_op [0] (v := (.val (.bool (decide ((p_b.length : Int) > 2000))))) (E_p (by kernel_rfl)) rfl rfl ?_
    refine G_op [0] (v := (.val (.bool (decide ((p_b.length : Int) > 2000))))) (E_p (by kernel_rfl)) rfl rfl ?_
    refine G_pure (l := []) (st := ⟨⟨71, [(20, (.val (.bool ((decide ((p_b.length : Int) > 2000)) || ((p_b.length : Int) == 0))))), (6, (.val (.bool false))), (5, (.box [1001] 0)), (0, (.val (.sl 1 (List.map e_u8 p_b)))), (1, (.val (.int .u16 p_at)))]⟩, mkH [([1001], (.box [(.val (.int .u8 p_by.a0)), (.val (.int .u8 p_by.a1)), (.val (.int .u8 p_by.a2)), (.val (.int .u8 p_by.a3))]))]⟩) ?_ (fun r4 => ?_)
    · refine G_nil ?_
      refine G_then ?_
      refine G_cond (t := ((decide ((p_b.length : Int) > 2000)) || ((p_b.length : Int) == 0))) (by kernel_rfl) (fun _ => ?_) (fun _ => ?_)
      · refine G_seq ?_
        refine G_region ?_
        refine G_op [0] (v := (.val (.bool true))) (E_p (by kernel_rfl)) rfl rfl ?_
        refine G_nil ?_
        refine G_then ?_
        refine G_ret ?_
        refine G_thenR ?_
        refine G_retR ?_
        refine q_some fun hA => ?_
        show outV _ _ = some _
        kernel_rfl
      · refine G_skip ?_
        refine G_then ?_
        refine G_seq ?_
        refine G_region ?_
        refine G_op [0] (v := (.val (.int .u16 p_at))) (E_p (by kernel_rfl)) rfl rfl ?_
        refine G_op [0] (v := (.val (.int .i64 (IntKind.wrap .i64 p_at)))) (E_p (by kernel_rfl)) rfl rfl ?_
        refine G_op [0] (v := (.val (.sl 1 (List.map e_u8 p_b)))) (E_p (by kernel_rfl)) rfl rfl ?_
        refine G_op [0] (v := (.val (.int .i64 (p_b.length : Int)))) (E_len (s := 1) (e := e_u8) (xs := p_b) (by kernel_rfl)) rfl rfl ?_
        refine q_guard fun h5 => ?_
        refine G_op [0] (v := (.val (.int .i64 (Int.tmod (IntKind.wrap .i64 p_at) (p_b.length : Int))))) (E_bin (a := .int .i64 (IntKind.wrap .i64 p_at)) (b := .int .i64 (p_b.length : Int)) rfl rfl (bin_rem h5)) rfl rfl ?_
        refine G_op [0] (v := (.val (.int .i64 (Int.tmod (IntKind.wrap .i64 p_at) (p_b.length : Int))))) (E_p (by kernel_rfl)) rfl rfl ?_
        refine G_nil ?_
        refine G_then ?_
        refine G_seq ?_
        refine G_region ?_
        refine G_op [1002] (v := (.row [1002] 1 0 0)) (E_a (u := (.row [1002] 1 0 0)) (b := (.row 1 (List.map e_u8 []))) (h' := [([1001], (.box [(.val (.int .u8 p_by.a0)), (.val (.int .u8 p_by.a1)), (.val (.int .u8 p_by.a2)), (.val (.int .u8 p_by.a3))])), ([1002], (.row 1 (List.map e_u8 [])))]) (by kernel_rfl) (by kernel_rfl) (by kernel_rfl)) rfl rfl ?_
        refine G_op [0] (v := (.val (.sl 1 (List.map e_u8 p_b)))) (E_p (by kernel_rfl)) rfl rfl ?_
        refine q_guard fun h6 => ?_
        refine G_op [1003] (v := (.row [1003] 1 0 (List.length p_b))) (E_appR (b := [1002]) (xs := []) (ys := p_b) (zs := p_b) (e := e_u8) (h' := [([1001], (.box [(.val (.int .u8 p_by.a0)), (.val (.int .u8 p_by.a1)), (.val (.int .u8 p_by.a2)), (.val (.int .u8 p_by.a3))])), ([1002], .dead), ([1003], (.row 1 (List.map e_u8 p_b)))]) (by kernel_rfl) (by kernel_rfl) (by first | rfl | simp) (L_sl (xs := p_b) (e := e_u8)) (by kernel_rfl) h6 (by first | rfl | simp) (by kernel_rfl)) rfl rfl ?_
        refine G_op [0] (v := (.row [1003] 1 0 (List.length p_b))) (E_p (by kernel_rfl)) rfl rfl ?_
        refine G_nil ?_
        refine G_then ?_
        refine G_subW (s0 := ⟨⟨71, [(8, (.row [1003] 1 0 (List.length p_b))), (7, (.val (.int .i64 (Int.tmod (IntKind.wrap .i64 p_at) (p_b.length : Int))))), (6, (.val (.bool false))), (5, (.box [1001] 0)), (0, (.val (.sl 1 (List.map e_u8 p_b))))]⟩, mkH [([1001], (.box [(.val (.int .u8 p_by.a0)), (.val (.int .u8 p_by.a1)), (.val (.int .u8 p_by.a2)), (.val (.int .u8 p_by.a3))])), ([1003], (.row 1 (List.map e_u8 p_b)))]⟩) (by exact Sub_keep ⟨.refl _, .refl _, .refl _, .refl _, .refl _, trivial⟩ ⟨⟨_, (by kernel_rfl), .refl _⟩, ⟨_, (by kernel_rfl), .refl _⟩, trivial⟩ (by kernel_rfl) (by kernel_rfl)) ?_
        refine G_seq ?_
        refine G_region ?_
        refine G_op [0] (v := (.val (.bool false))) (E_p (by kernel_rfl)) rfl rfl ?_
        refine G_nil ?_
        refine G_then ?_
        refine G_seq ?_
        refine G_seq ?_
        refine G_region ?_
        refine G_op [0] (v := (.val (.int .i64 0))) (E_p (by kernel_rfl)) rfl rfl ?_
        refine G_nil ?_
        refine G_then ?_
        refine G_loop (enc := fun z7 => ⟨⟨71, [(10, (.val (.int .i64 z7.1))), (9, (.val (.bool z7.2.1))), (8, (.row [1003] 1 0 (List.length z7.2.2))), (7, (.val (.int .i64 (Int.tmod (IntKind.wrap .i64 p_at) (p_b.length : Int))))), (6, (.val (.bool false))), (5, (.box [1001] 0)), (0, (.val (.sl 1 (List.map e_u8 p_b))))]⟩, mkH [([1001], (.box [(.val (.int .u8 p_by.a0)), (.val (.int .u8 p_by.a1)), (.val (.int .u8 p_by.a2)), (.val (.int .u8 p_by.a3))])), ([1003], (.row 1 (List.map e_u8 z7.2.2)))]⟩) (out := fun e8 => ⟨⟨71, [(9, (.val (.bool e8.1))), (8, (.row [1003] 1 0 (List.length e8.2))), (6, (.val (.bool false))), (0, (.val (.sl 1 (List.map e_u8 p_b))))]⟩, mkH [([1003], (.row 1 (List.map e_u8 e8.2)))]⟩) (by exact Sub_env ⟨.refl _, .refl _, .refl _, .refl _, .refl _, .refl _, .refl _, trivial⟩) (fun e8 => ?_) (fun r9 hr9 R z7 => ?_)
        · refine G_then ?_
          refine G_seq ?_
          refine G_region ?_
          refine G_op [0] (v := (.row [1003] 1 0 (List.length e8.2))) (E_p (by kernel_rfl)) rfl rfl ?_
          refine q_bind fun v20 hv20 => ?_
          refine G_op [0] (v := (.val (.int .u32 v20))) (E_callF (ds := [.sl 1 (List.map e_u8 e8.2)]) (ids := [[1003]]) (r := .int .u32 v20) hc15 (A_cons (A_row (xs := e8.2) (e := e_u8) (by kernel_rfl) (by first | rfl | simp)) A_nil) ((hs15 e8.2 _ (by kernel_rfl)).trans (congrArg _ hv20)) (by kernel_rfl)) rfl rfl ?_
          refine G_op [0] (v := (.val (.sl 1 (List.map e_u8 p_b)))) (E_p (by kernel_rfl)) rfl rfl ?_
          refine q_bind fun v21 hv21 => ?_
          refine G_op [0] (v := (.val (.int .u32 v21))) (E_call (ds := [.sl 1 (List.map e_u8 p_b)]) (r := .int .u32 v21) hc15 (by kernel_rfl) ((hs15 p_b _ (by kernel_rfl)).trans (congrArg _ hv21))) rfl rfl ?_
          refine G_op [0] (v := (.val (.bool (v20 == v21)))) (E_p (by kernel_rfl)) rfl rfl ?_
          refine G_op [0] (v := (.val (.bool e8.1))) (E_p (by kernel_rfl)) rfl rfl ?_
          refine G_op [0] (v := (.val (.bool (!e8.1)))) (E_p (by kernel_rfl)) rfl rfl ?_
          refine G_op [0] (v := (.val (.bool ((v20 == v21) == (!e8.1))))) (E_p (by kernel_rfl)) rfl rfl ?_
          refine G_op [0] (v := (.val (.bool ((v20 == v21) == (!e8.1))))) (E_p (by kernel_rfl)) rfl rfl ?_
          refine G_nil ?_
          refine G_then ?_
          refine G_subW (s0 := ⟨⟨71, [(6, (.val (.bool ((v20 == v21) == (!e8.1)))))]⟩, mkH []⟩) (by exact Sub_keep ⟨.refl _, trivial⟩ trivial (by kernel_rfl) (by kernel_rfl)) ?_
          refine G_ret ?_
          refine G_retR ?_
          refine q_some fun hA => ?_
          show outV _ _ = some _
          kernel_rfl
        · unfold g_snafflelaw02_CrcBurst_l0
          refine G_seq ?_
          refine G_seq ?_
          refine G_region ?_
          refine G_op [0] (v := (.val (.int .i64 z7.1))) (E_p (by kernel_rfl)) rfl rfl ?_
          refine G_op [0] (v := (.val (.bool (decide (z7.1 < 4))))) (E_p (by kernel_rfl)) rfl rfl ?_
          refine G_op [0] (v := (.val (.bool (decide (z7.1 < 4))))) (E_p (by kernel_rfl)) rfl rfl ?_
          refine G_pure (l := []) (st := ⟨⟨71, [(38, (.val (.bool ((decide (z7.1 < 4)) && (decide ((IntKind.wrap .i64 ((Int.tmod (IntKind.wrap .i64 p_at) (p_b.length : Int)) + z7.1)) < (p_b.length : Int))))))), (10, (.val (.int .i64 z7.1))), (9, (.val (.bool z7.2.1))), (8, (.row [1003] 1 0 (List.length z7.2.2))), (7, (.val (.int .i64 (Int.tmod (IntKind.wrap .i64 p_at) (p_b.length : Int))))), (6, (.val (.bool false))), (5, (.box [1001] 0)), (0, (.val (.sl 1 (List.map e_u8 p_b))))]⟩, mkH [([1001], (.box [(.val (.int .u8 p_by.a0)), (.val (.int .u8 p_by.a1)), (.val (.int .u8 p_by.a2)), (.val (.int .u8 p_by.a3))])), ([1003], (.row 1 (List.map e_u8 z7.2.2)))]⟩) ?_ (fun r12 => ?_)
          · refine G_nil ?_
            refine G_then ?_
            refine G_cond (t := ((decide (z7.1 < 4)) && (decide ((IntKind.wrap .i64 ((Int.tmod (IntKind.wrap .i64 p_at) (p_b.length : Int)) + z7.1)) < (p_b.length : Int))))) (by kernel_rfl) (fun _ => ?_) (fun _ => ?_)
            · refine G_skip ?_
              refine G_then ?_
              refine G_seq ?_
              refine G_block ?_
              refine G_seq ?_
              refine G_draw ?_
              refine X_op (w := (.row [1003] 1 0 (List.length z7.2.2))) (v := (.row [1003] 1 0 (List.length z7.2.2))) (E_p (by kernel_rfl)) rfl rfl rfl ?_
              refine X_op (w := (.val (.int .i64 (Int.tmod (IntKind.wrap .i64 p_at) (p_b.length : Int))))) (v := (.val (.int .i64 (Int.tmod (IntKind.wrap .i64 p_at) (p_b.length : Int))))) (E_p (by kernel_rfl)) rfl rfl rfl ?_
              refine X_op (w := (.val (.int .i64 z7.1))) (v := (.val (.int .i64 z7.1))) (E_p (by kernel_rfl)) rfl rfl rfl ?_
              refine X_op (w := (.val (.int .i64 (IntKind.wrap .i64 ((Int.tmod (IntKind.wrap .i64 p_at) (p_b.length : Int)) + z7.1))))) (v := (.val (.int .i64 (IntKind.wrap .i64 ((Int.tmod (IntKind.wrap .i64 p_at) (p_b.length : Int)) + z7.1))))) (E_p (by kernel_rfl)) rfl rfl rfl ?_
              refine X_op (w := (.val (.sl 1 (List.map e_u8 p_b)))) (v := (.val (.sl 1 (List.map e_u8 p_b)))) (E_p (by kernel_rfl)) rfl rfl rfl ?_
              refine X_op (w := (.val (.int .i64 (Int.tmod (IntKind.wrap .i64 p_at) (p_b.length : Int))))) (v := (.val (.int .i64 (Int.tmod (IntKind.wrap .i64 p_at) (p_b.length : Int))))) (E_p (by kernel_rfl)) rfl rfl rfl ?_
              refine X_op (w := (.val (.int .i64 z7.1))) (v := (.val (.int .i64 z7.1))) (E_p (by kernel_rfl)) rfl rfl rfl ?_
              refine X_op (w := (.val (.int .i64 (IntKind.wrap .i64 ((Int.tmod (IntKind.wrap .i64 p_at) (p_b.length : Int)) + z7.1))))) (v := (.val (.int .i64 (IntKind.wrap .i64 ((Int.tmod (IntKind.wrap .i64 p_at) (p_b.length : Int)) + z7.1))))) (E_p (by kernel_rfl)) rfl rfl rfl ?_
              refine q_bind fun x13 hx13 => ?_
              refine X_op (w := (.val (.pt [(.int .u8 x13)]))) (v := (.val (.pt [(.int .u8 x13)]))) (E_soff (s := 1) (e := e_u8) (xs := p_b) (n := (IntKind.wrap .i64 ((Int.tmod (IntKind.wrap .i64 p_at) (p_b.length : Int)) + z7.1))) (a := x13) (by kernel_rfl) (by kernel_rfl) hx13) rfl rfl rfl ?_
              refine X_op (w := (.val (.int .u8 x13))) (v := (.val (.int .u8 x13))) (E_load (by kernel_rfl)) rfl rfl rfl ?_
              refine X_op (w := (.val (.int .i64 z7.1))) (v := (.val (.int .i64 z7.1))) (E_p (by kernel_rfl)) rfl rfl rfl ?_
              refine q_bind fun x14 hx14 => ?_
              refine X_op (w := (.box [1001] (0 + Int.toNat z7.1 * 1))) (v := (.box [1001] (0 + Int.toNat z7.1 * 1))) (E_aoffI (b := [1001]) (o := 0) (xs := [p_by.a0, p_by.a1, p_by.a2, p_by.a3]) (n' := z7.1) (v := x14) (by kernel_rfl) (by kernel_rfl) rfl hx14) rfl rfl rfl ?_
              refine X_op (w := (.val (.int .u8 x14))) (v := (.val (.int .u8 x14))) (E_loadI (b := [1001]) (xs := [p_by.a0, p_by.a1, p_by.a2, p_by.a3]) (pre := []) (post := []) (o := 0) (n' := z7.1) (v := x14) (by kernel_rfl) (by kernel_rfl) rfl hx14) rfl rfl rfl ?_
              refine X_op (w := (.val (.int .u8 (bits .xor .u8 x13 x14)))) (v := (.val (.int .u8 (bits .xor .u8 x13 x14)))) (E_p (by kernel_rfl)) rfl rfl rfl ?_
              refine q_bind fun x15 hx15 => ?_
              refine X_op (w := (.elt [1003] (0 + Int.toNat (IntKind.wrap .i64 ((Int.tmod (IntKind.wrap .i64 p_at) (p_b.length : Int)) + z7.1))) 0)) (v := (.elt [1003] (0 + Int.toNat (IntKind.wrap .i64 ((Int.tmod (IntKind.wrap .i64 p_at) (p_b.length : Int)) + z7.1))) 0)) (E_soffR (b := [1003]) (xs := z7.2.2) (n' := (IntKind.wrap .i64 ((Int.tmod (IntKind.wrap .i64 p_at) (p_b.length : Int)) + z7.1))) (a := x15) (by kernel_rfl) (by kernel_rfl) (by first | rfl | simp) hx15) rfl rfl rfl ?_
              refine X_op0 (v := (.val (.tup []))) (E_storeE (s := 1) (b := [1003]) (o := 0) (xs := z7.2.2) (e := e_u8) (n' := (IntKind.wrap .i64 ((Int.tmod (IntKind.wrap .i64 p_at) (p_b.length : Int)) + z7.1))) (a := x15) (a' := (bits .xor .u8 x13 x14)) (cs := [(.val (.int .u8 (bits .xor .u8 x13 x14)))]) (ds := [(.int .u8 (bits .xor .u8 x13 x14))]) (h' := [([1001], (.box [(.val (.int .u8 p_by.a0)), (.val (.int .u8 p_by.a1)), (.val (.int .u8 p_by.a2)), (.val (.int .u8 p_by.a3))])), ([1003], (.row 1 (List.map e_u8 (List.set z7.2.2 (Int.toNat (IntKind.wrap .i64 ((Int.tmod (IntKind.wrap .i64 p_at) (p_b.length : Int)) + z7.1))) (bits .xor .u8 x13 x14)))))]) (by kernel_rfl) (by kernel_rfl) (by kernel_rfl) rfl (by kernel_rfl) (by kernel_rfl) hx15 (by kernel_rfl) (by kernel_rfl) (by kernel_rfl)) rfl ?_
              refine X_nil (m := [(10, (.val (.int .i64 z7.1))), (9, (.val (.bool z7.2.1))), (8, (.row [1003] 1 0 (List.length z7.2.2))), (7, (.val (.int .i64 (Int.tmod (IntKind.wrap .i64 p_at) (p_b.length : Int))))), (6, (.val (.bool false))), (5, (.box [1001] 0)), (0, (.val (.sl 1 (List.map e_u8 p_b))))]) (by exact ⟨rfl, rfl, rfl, rfl, rfl, rfl, rfl, trivial⟩) ?_
              refine G_then ?_
              refine G_region ?_
              refine G_op [0] (v := (.val (.bool z7.2.1))) (E_p (by kernel_rfl)) rfl rfl ?_
              refine G_op [0] (v := (.val (.bool z7.2.1))) (E_p (by kernel_rfl)) rfl rfl ?_
              refine G_joinR (l := t5_0) (st := fun (b17 : Bool) => ⟨⟨71, [(62, (.val (.bool b17))), (10, (.val (.int .i64 z7.1))), (9, (.val (.bool z7.2.1))), (8, (.row [1003] 1 0 (List.length z7.2.2))), (7, (.val (.int .i64 (Int.tmod (IntKind.wrap .i64 p_at) (p_b.length : Int))))), (6, (.val (.bool false))), (5, (.box [1001] 0)), (0, (.val (.sl 1 (List.map e_u8 p_b))))]⟩, mkH [([1001], (.box [(.val (.int .u8 p_by.a0)), (.val (.int .u8 p_by.a1)), (.val (.int .u8 p_by.a2)), (.val (.int .u8 p_by.a3))])), ([1003], (.row 1 (List.map e_u8 (List.set z7.2.2 (Int.toNat (IntKind.wrap .i64 ((Int.tmod (IntKind.wrap .i64 p_at) (p_b.length : Int)) + z7.1))) (bits .xor .u8 x13 x14)))))]⟩) (fun b17 => ?_) (fun r18 hr18 => ?_)
              · refine G_op [0] (v := (.val (.bool b17))) (E_p (by kernel_rfl)) rfl rfl ?_
                refine G_nil ?_
                refine G_inB ?_
                refine G_then ?_
                refine G_region ?_
                refine G_op [0] (v := (.val (.int .i64 z7.1))) (E_p (by kernel_rfl)) rfl rfl ?_
                refine G_op [0] (v := (.val (.int .i64 (IntKind.wrap .i64 (z7.1 + 1))))) (E_p (by kernel_rfl)) rfl rfl ?_
                refine G_op [0] (v := (.val (.int .i64 (IntKind.wrap .i64 (z7.1 + 1))))) (E_p (by kernel_rfl)) rfl rfl ?_
                refine G_nil ?_
                refine G_then ?_
                exact q_some fun h => h _ (by exact Sub_env ⟨.refl _, .refl _, (.of_eq (by simp)), .refl _, .refl _, .refl _, .refl _, trivial⟩)
              · refine q_bif (fun h16 => ?_) (fun h16 => ?_)
                · refine G_subR (Sub_lit (t := 57) (v := true) rfl h16) ?_
                  refine G_off rfl rfl ?_
                  refine G_off rfl rfl ?_
                  refine G_off rfl rfl ?_
                  refine G_off rfl rfl ?_
                  refine G_op [0] (v := (.val (.bool true))) (E_p (by kernel_rfl)) rfl rfl ?_
                  exact q_some fun h => RP_sub (by exact Sub_env ⟨.refl _, .refl _, .refl _, .refl _, .refl _, .refl _, .refl _, .refl _, trivial⟩) h
                · refine G_subR (Sub_lit (t := 57) (v := false) rfl h16) ?_
                  refine G_op [0] (v := (.val (.int .i64 z7.1))) (E_p (by kernel_rfl)) rfl rfl ?_
                  refine q_bind fun x19 hx19 => ?_
                  refine G_op [0] (v := (.box [1001] (0 + Int.toNat z7.1 * 1))) (E_aoffI (b := [1001]) (o := 0) (xs := [p_by.a0, p_by.a1, p_by.a2, p_by.a3]) (n' := z7.1) (v := x19) (by kernel_rfl) (by kernel_rfl) rfl hx19) rfl rfl ?_
                  refine G_op [0] (v := (.val (.int .u8 x19))) (E_loadI (b := [1001]) (xs := [p_by.a0, p_by.a1, p_by.a2, p_by.a3]) (pre := []) (post := []) (o := 0) (n' := z7.1) (v := x19) (by kernel_rfl) (by kernel_rfl) rfl hx19) rfl rfl ?_
                  refine G_op [0] (v := (.val (.bool (x19 != 0)))) (E_p (by kernel_rfl)) rfl rfl ?_
                  refine G_op [0] (v := (.val (.bool (x19 != 0)))) (E_p (by kernel_rfl)) rfl rfl ?_
                  exact q_some fun h => RP_sub (by exact Sub_env ⟨.refl _, .refl _, .refl _, .refl _, .refl _, .refl _, .refl _, .refl _, trivial⟩) h
            · refine G_exit ?_
              refine G_thenX ?_
              refine G_thenX ?_
              refine G_inBX ?_
              exact q_some fun h => (QN_then : QN _ _) _ _ (by exact Sub_keep ⟨.refl _, .refl _, .refl _, .refl _, trivial⟩ ⟨⟨_, (by kernel_rfl), .refl _⟩, trivial⟩ (by kernel_rfl) (by kernel_rfl)) h
          · refine q_two (decide (z7.1 < 4)) (fun h10 => ?_) (fun h10 => ?_)
            · refine G_subR (Sub_lit (t := 31) (v := true) rfl h10) ?_
              refine G_op [0] (v := (.val (.int .i64 (Int.tmod (IntKind.wrap .i64 p_at) (p_b.length : Int))))) (E_p (by kernel_rfl)) rfl rfl ?_
              refine G_op [0] (v := (.val (.int .i64 z7.1))) (E_p (by kernel_rfl)) rfl rfl ?_
              refine G_op [0] (v := (.val (.int .i64 (IntKind.wrap .i64 ((Int.tmod (IntKind.wrap .i64 p_at) (p_b.length : Int)) + z7.1))))) (E_p (by kernel_rfl)) rfl rfl ?_
              refine G_op [0] (v := (.val (.sl 1 (List.map e_u8 p_b)))) (E_p (by kernel_rfl)) rfl rfl ?_
              refine G_op [0] (v := (.val (.int .i64 (p_b.length : Int)))) (E_len (s := 1) (e := e_u8) (xs := p_b) (by kernel_rfl)) rfl rfl ?_
              refine G_op [0] (v := (.val (.bool (decide ((IntKind.wrap .i64 ((Int.tmod (IntKind.wrap .i64 p_at) (p_b.length : Int)) + z7.1)) < (p_b.length : Int)))))) (E_p (by kernel_rfl)) rfl rfl ?_
              refine G_op [0] (v := (.val (.bool (decide ((IntKind.wrap .i64 ((Int.tmod (IntKind.wrap .i64 p_at) (p_b.length : Int)) + z7.1)) < (p_b.length : Int)))))) (E_p (by kernel_rfl)) rfl rfl ?_
              exact q_some fun h => RP_sub (by exact Sub_env ⟨(Wk_and1 h10), .refl _, .refl _, .refl _, .refl _, .refl _, .refl _, .refl _, trivial⟩) h
            · refine G_subR (Sub_lit (t := 31) (v := false) rfl h10) ?_
              refine G_off rfl rfl ?_
              refine G_off rfl rfl ?_
              refine G_off rfl rfl ?_
              refine G_off rfl rfl ?_
              refine G_off rfl rfl ?_
              refine G_off rfl rfl ?_
              refine G_op [0] (v := (.val (.bool false))) (E_p (by kernel_rfl)) rfl rfl ?_
              exact q_some fun h => RP_sub (by exact Sub_env ⟨(Wk_and0 h10), .refl _, .refl _, .refl _, .refl _, .refl _, .refl _, .refl _, trivial⟩) h
    · refine q_two (decide ((p_b.length : Int) > 2000)) (fun h2 => ?_) (fun h2 => ?_)
      · refine G_subR (Sub_lit (t := 16) (v := true) rfl h2) ?_
        refine G_off rfl rfl ?_
        refine G_off rfl rfl ?_
        refine G_off rfl rfl ?_
        refine G_op [0] (v := (.val (.bool true))) (E_p (by kernel_rfl)) rfl rfl ?_
        exact q_some fun h => RP_sub (by exact Sub_env ⟨(Wk_or1 h2), .refl _, .refl _, .refl _, .refl _, trivial⟩) h
      · refine G_subR (Sub_lit (t := 16) (v := false) rfl h2) ?_
        refine G_op [0] (v := (.val (.sl 1 (List.map e_u8 p_b)))) (E_p (by kernel_rfl)) rfl rfl ?_
        refine G_op [0] (v := (.val (.int .i64 (p_b.length : Int)))) (E_len (s := 1) (e := e_u8) (xs := p_b) (by kernel_rfl)) rfl rfl ?_
        refine G_op [0] (v := (.val (.bool ((p_b.length : Int) == 0)))) (E_p (by kernel_rfl)) rfl rfl ?_
        refine G_op [0] (v := (.val (.bool ((p_b.length : Int) == 0)))) (E_p (by kernel_rfl)) rfl rfl ?_
        exact q_some fun h => RP_sub (by exact Sub_env ⟨(Wk_or0 h2), .refl _, .refl _, .refl _, .refl _, trivial⟩) h
theorem s5 (x0 : (List Int)) (x1 : Int) (x2 : (Arr4 Int)) (ds : List DV) (hd : List.map z1 ds = List.map z1 [.sl 1 (List.map e_u8 x0), .int .u16 x1, .agg ((e_arr4 e_u8) x2)]) : sp5 ds = (g_snafflelaw02_CrcBurst x0 x1 x2).map fun r => .bool r :=
  specT_at (ea := fun (a : (List Int) × Int × (Arr4 Int)) => [.sl 1 (List.map e_u8 a.1), .int .u16 a.2.1, .agg ((e_arr4 e_u8) a.2.2)]) (eb := fun (r : Bool) => .bool r) (g := fun (a : (List Int) × Int × (Arr4 Int)) => g_snafflelaw02_CrcBurst a.1 a.2.1 a.2.2) inj5 (x0, x1, x2) hd

def t6_0 : List AIns := (⟨(some 21), (.p (.mv (.t 20))), none⟩ :: ⟨(some 22), (.p (.mv (.t 2))), (some (21, false))⟩ :: ⟨(some 23), (.p (.len (.t 22))), (some (21, false))⟩ :: ⟨(some 24), (.p (.mv (.t 0))), (some (21, false))⟩ :: ⟨(some 25), (.p (.len (.t 24))), (some (21, false))⟩ :: ⟨(some 26), (.p (.bin .lss (.t 23) (.t 25))), (some (21, false))⟩ :: ⟨(some 27), (.p (.pick (.t 21) (.c (.bool true)) (.t 26))), none⟩ :: [])
def k6_0 : ACode := (.seq (.region (⟨(some 9), (.r (.call 14 [])), none⟩ :: ⟨(some 10), (.p (.un .not (.t 9))), none⟩ :: [])) (.cond (.t 10) (.seq (.region (⟨(some 6), (.p (.mv (.c (.bool false)))), none⟩ :: [])) .ret) .skip))
def k6_1 : ACode := (.region (⟨(some 11), (.p (.mv (.t 0))), none⟩ :: ⟨(some 12), (.p (.len (.t 11))), none⟩ :: ⟨(some 13), (.p (.bin .gtr (.t 12) (.c (.int .i64 2000)))), none⟩ :: ⟨(some 14), (.p (.mv (.t 13))), none⟩ :: ⟨(some 15), (.p (.mv (.t 1))), (some (14, false))⟩ :: ⟨(some 16), (.p (.len (.t 15))), (some (14, false))⟩ :: ⟨(some 17), (.p (.mv (.t 0))), (some (14, false))⟩ :: ⟨(some 18), (.p (.len (.t 17))), (some (14, false))⟩ :: ⟨(some 19), (.p (.bin .lss (.t 16) (.t 18))), (some (14, false))⟩ :: ⟨(some 20), (.p (.pick (.t 14) (.c (.bool true)) (.t 19))), none⟩ :: t6_0))
def k6_2 : ACode := (.seq k6_1 (.cond (.t 27) (.seq (.region (⟨(some 6), (.p (.mv (.c (.bool true)))), none⟩ :: [])) .ret) .skip))
def k6_3 : ACode := (.region (⟨(some 28), (.a (.bsl 1 0 [(.int .u8 0)] [])), none⟩ :: ⟨(some 29), (.p (.mv (.t 0))), none⟩ :: ⟨(some 30), (.w (.app 1 1 false (.t 28) (.t 29))), none⟩ :: ⟨(some 7), (.p (.mv (.t 30))), none⟩ :: []))
def k6_4 : ACode := (.region (⟨(some 31), (.p (.mv (.t 8))), none⟩ :: ⟨(some 32), (.p (.mv (.t 7))), none⟩ :: ⟨(some 33), (.p (.len (.t 32))), none⟩ :: ⟨(some 34), (.p (.bin .lss (.t 31) (.t 33))), none⟩ :: []))
def k6_5 : ACode := (.seq k6_4 (.cond (.t 34) .skip (.exit 0)))
def k6_6 : ACode := (.draw (⟨(some 37), (.p (.mv (.t 7))), none⟩ :: ⟨(some 38), (.p (.mv (.t 8))), none⟩ :: ⟨(some 39), (.p (.mv (.t 0))), none⟩ :: ⟨(some 40), (.p (.mv (.t 8))), none⟩ :: ⟨(some 41), (.p (.soff 1 (.t 39) (.t 40))), none⟩ :: ⟨(some 42), (.r (.load 1 false (.t 41))), none⟩ :: ⟨(some 43), (.p (.mv (.t 1))), none⟩ :: ⟨(some 44), (.p (.mv (.t 8))), none⟩ :: ⟨(some 45), (.p (.soff 1 (.t 43) (.t 44))), none⟩ :: ⟨(some 46), (.r (.load 1 false (.t 45))), none⟩ :: ⟨(some 47), (.p (.bin .xor (.t 42) (.t 46))), none⟩ :: ⟨(some 48), (.p (.mv (.t 2))), none⟩ :: ⟨(some 49), (.p (.mv (.t 8))), none⟩ :: ⟨(some 50), (.p (.soff 1 (.t 48) (.t 49))), none⟩ :: ⟨(some 51), (.r (.load 1 false (.t 50))), none⟩ :: ⟨(some 52), (.p (.bin .xor (.t 47) (.t 51))), none⟩ :: ⟨(some 53), (.p (.soff 1 (.t 37) (.t 38))), none⟩ :: ⟨none, (.w (.store 1 (.t 53) (.t 52))), none⟩ :: []))
def k6_7 : ACode := (.block 1 k6_6)
def k6_8 : ACode := (.seq k6_7 (.region (⟨(some 35), (.p (.mv (.t 8))), none⟩ :: ⟨(some 36), (.p (.bin .add (.t 35) (.c (.int .i64 1)))), none⟩ :: ⟨(some 8), (.p (.mv (.t 36))), none⟩ :: [])))
def k6_9 : ACode := (.seq k6_5 k6_8)
def k6_10 : ACode := (.block 0 (.loop k6_9))
def k6_11 : ACode := (.seq (.region (⟨(some 8), (.p (.mv (.c (.int .i64 0)))), none⟩ :: [])) k6_10)
def k6_12 : ACode := (.draw (⟨(some 54), (.p (.mv (.t 0))), none⟩ :: ⟨(some 55), (.r (.call 15 [(.t 54)])), none⟩ :: ⟨(some 56), (.p (.mv (.t 1))), none⟩ :: ⟨(some 57), (.p (.mv (.t 0))), none⟩ :: ⟨(some 58), (.p (.len (.t 57))), none⟩ :: ⟨(some 59), (.p (.slice 1 (.t 56) none (some (.t 58)) none)), none⟩ :: ⟨(some 60), (.r (.call 15 [(.t 59)])), none⟩ :: ⟨(some 61), (.p (.bin .xor (.t 55) (.t 60))), none⟩ :: ⟨(some 62), (.p (.mv (.t 2))), none⟩ :: ⟨(some 63), (.p (.mv (.t 0))), none⟩ :: ⟨(some 64), (.p (.len (.t 63))), none⟩ :: ⟨(some 65), (.p (.slice 1 (.t 62) none (some (.t 64)) none)), none⟩ :: ⟨(some 66), (.r (.call 15 [(.t 65)])), none⟩ :: ⟨(some 67), (.p (.bin .xor (.t 61) (.t 66))), none⟩ :: ⟨(some 68), (.p (.mv (.t 7))), none⟩ :: ⟨(some 69), (.r (.call 15 [(.t 68)])), none⟩ :: ⟨(some 70), (.p (.bin .xor (.t 67) (.t 69))), none⟩ :: ⟨(some 71), (.p (.bin .eql (.t 70) (.c (.int .u32 0)))), none⟩ :: ⟨(some 6), (.p (.mv (.t 71))), none⟩ :: []))
def k6_13 : ACode := (.seq k6_12 .ret)
def k6_14 : ACode := (.seq k6_11 k6_13)
def k6_15 : ACode := (.seq k6_3 k6_14)
def k6_16 : ACode := (.seq k6_2 k6_15)
def k6_17 : ACode := (.seq k6_0 k6_16)
def cd6 : ACode := (.seq (.region (⟨(some 6), (.p (.mv (.c (.bool false)))), none⟩ :: [])) k6_17)
def rs6 : List ARes := [(.tmp 6)]
def af6 : AFn := ⟨cd6, rs6, 72⟩
theorem c6 : compF Try.prog 6 = some af6 := by kernel_rfl
noncomputable def g_snafflelaw02_CrcTurns_l0 (p_a : (List Int)) (p_b : (List Int)) (p_c : (List Int)) (z9 : Int × (List Int)) : Option ((Int × (List Int)) ⊕ ((List Int))) := (bif (decide (z9.1 < (((List.length z9.2) : Nat) : Int))) then (Option.bind (getO p_a z9.1) fun x12 => (Option.bind (getO p_b z9.1) fun x13 => (Option.bind (getO p_c z9.1) fun x14 => (Option.bind (getO z9.2 z9.1) fun x15 => (some (.inl ((IntKind.wrap .i64 (z9.1 + 1)), (List.set z9.2 (Int.toNat z9.1) (bits .xor .u8 (bits .xor .u8 x12 x13) x14))))))))) else (some (.inr z9.2)))
noncomputable def g_snafflelaw02_CrcTurns (p_a : (List Int)) (p_b : (List Int)) (p_c : (List Int)) : Option Bool := (Option.bind (g_snafflelaw02_awake) fun v1 => (bif (!v1) then (some false) else (bif (((decide ((p_a.length : Int) > 2000)) || (decide ((p_b.length : Int) < (p_a.length : Int)))) || (decide ((p_c.length : Int) < (p_a.length : Int)))) then (some true) else (if (room 1 (0 + (List.length p_a))) then (Option.bind (loopO (g_snafflelaw02_CrcTurns_l0 p_a p_b p_c) (0, p_a)) (fun (e10 : (List Int)) => (Option.bind (g_crc_Sum p_a) fun v16 => (Option.bind (cutO p_b 0 (p_a.length : Int)) fun x17 => (Option.bind (g_crc_Sum x17) fun v18 => (Option.bind (cutO p_c 0 (p_a.length : Int)) fun x19 => (Option.bind (g_crc_Sum x19) fun v20 => (Option.bind (g_crc_Sum e10) fun v21 => (some ((bits .xor .u32 (bits .xor .u32 (bits .xor .u32 v16 v18) v20) v21) == 0)))))))))) else none))))
noncomputable def sp6 : List DV → Option DV := specT (fun (a : (List Int) × (List Int) × (List Int)) => [.sl 1 (List.map e_u8 a.1), .sl 1 (List.map e_u8 a.2.1), .sl 1 (List.map e_u8 a.2.2)]) (fun (r : Bool) => .bool r) (fun (a : (List Int) × (List Int) × (List Int)) => g_snafflelaw02_CrcTurns a.1 a.2.1 a.2.2)
theorem inj6 : ∀ (a b : (List Int) × (List Int) × (List Int)), List.map z1 ((fun (a : (List Int) × (List Int) × (List Int)) => [.sl 1 (List.map e_u8 a.1), .sl 1 (List.map e_u8 a.2.1), .sl 1 (List.map e_u8 a.2.2)]) a) = List.map z1 ((fun (a : (List Int) × (List Int) × (List Int)) => [.sl 1 (List.map e_u8 a.1), .sl 1 (List.map e_u8 a.2.1), .sl 1 (List.map e_u8 a.2.2)]) b) → a = b := by
  rintro ⟨a0, a1, a2⟩ ⟨b0, b1, b2⟩ h
  simp only [List.map_cons, List.map_nil, List.cons.injEq, and_true] at h
  obtain ⟨h0, h1, h2⟩ := h
  exact (pair_eq (map_inj e_u8_inj (z1_sl h0)) (pair_eq (map_inj e_u8_inj (z1_sl h1)) (map_inj e_u8_inj (z1_sl h2))))
set_option maxHeartbeats 1000000 in
theorem w6 {C : FuncId → Con} (hC : ConOk Try.prog C) {q14 : List DV → Option DV} (hc14 : C 14 = .val q14) (hs14 : ∀ (ds : List DV), List.map z1 ds = List.map z1 [] → q14 ds = (g_snafflelaw02_awake).map fun r => .bool r) {q15 : List DV → Option DV} (hc15 : C 15 = .val q15) (hs15 : ∀ (x0 : (List Int)) (ds : List DV), List.map z1 ds = List.map z1 [.sl 1 (List.map e_u8 x0)] → q15 ds = (g_crc_Sum x0).map fun r => .int .u32 r) : ValOk Try.prog 6 sp6 := by
  refine valT_of hC c6 _ _ _ inj6 ?_
  rintro ⟨p_a, p_b, p_c⟩
  show Imq (g_snafflelaw02_CrcTurns p_a p_b p_c) (fun _ => True) fun r => WP Try.prog C (fun _ => False) cd6 (retQ fun s => outV s rs6 = some (.bool r)) ⟨⟨72, [(0, (.val (.sl 1 (List.map e_u8 p_a)))), (1, (.val (.sl 1 (List.map e_u8 p_b)))), (2, (.val (.sl 1 (List.map e_u8 p_c))))]⟩, mkH []⟩
  unfold g_snafflelaw02_CrcTurns
  refine G_seq ?_
  refine G_region ?_
  refine G_op [0] (v := (.val (.bool false))) (E_p (by kernel_rfl)) rfl rfl ?_
  refine G_nil ?_
  refine G_then ?_
  refine G_seq ?_
  refine G_seq ?_
  refine G_region ?_
  refine q_bind fun v1 hv1 => ?_
  refine G_op [0] (v := (.val (.bool v1))) (E_call (ds := []) (r := .bool v1) hc14 (by kernel_rfl) ((hs14 _ (by kernel_rfl)).trans (congrArg _ hv1))) rfl rfl ?_
  refine G_op [0] (v := (.val (.bool (!v1)))) (E_p (by kernel_rfl)) rfl rfl ?_
  refine G_nil ?_
  refine G_then ?_
  refine G_cond (t := (!v1)) (by kernel_rfl) (fun _ => ?_) (fun _ => ?_)
  · refine G_seq ?_
    refine G_region ?_
    refine G_op [0] (v := (.val (.bool false))) (E_p (by kernel_rfl)) rfl rfl ?_
    refine G_nil ?_
    refine G_then ?_
    refine G_ret ?_
    refine G_thenR ?_
    refine G_retR ?_
    refine q_some fun hA => ?_
    show outV _ _ = some _
    kernel_rfl
  · refine G_skip ?_
    refine G_then ?_
    refine G_seq ?_
    refine G_seq ?_
    refine G_region ?_
    refine G_op [0] (v := (.val (.sl 1 (List.map e_u8 p_a)))) (E_p (by kernel_rfl)) rfl rfl ?_
    refine G_op [0] (v := (.val (.int .i64 (p_a.length : Int)))) (E_len (s := 1) (e := e_u8) (xs := p_a) (by kernel_rfl)) rfl rfl ?_
    refine G_op [0] (v := (.val (.bool (decide ((p_a.length : Int) > 2000))))) (E_p (by kernel_rfl)) rfl rfl ?_
    refine G_op [0] (v := (.val (.bool (decide ((p_a.length : Int) > 2000))))) (E_p (by kernel_rfl)) rfl rfl ?_
    refine G_pure (l := t6_0) (st := ⟨⟨72, [(20, (.val (.bool ((decide ((p_a.length : Int) > 2000)) || (decide ((p_b.length : Int) < (p_a.length : Int))))))), (6, (.val (.bool false))), (0, (.val (.sl 1 (List.map e_u8 p_a)))), (1, (.val (.sl 1 (List.map e_u8 p_b)))), (2, (.val (.sl 1 (List.map e_u8 p_c))))]⟩, mkH []⟩) ?_ (fun r4 => ?_)
    · refine G_op [0] (v := (.val (.bool ((decide ((p_a.length : Int) > 2000)) || (decide ((p_b.length : Int) < (p_a.length : Int))))))) (E_p (by kernel_rfl)) rfl rfl ?_
      refine G_pure (l := []) (st := ⟨⟨72, [(27, (.val (.bool (((decide ((p_a.length : Int) > 2000)) || (decide ((p_b.length : Int) < (p_a.length : Int)))) || (decide ((p_c.length : Int) < (p_a.length : Int))))))), (6, (.val (.bool false))), (0, (.val (.sl 1 (List.map e_u8 p_a)))), (1, (.val (.sl 1 (List.map e_u8 p_b)))), (2, (.val (.sl 1 (List.map e_u8 p_c))))]⟩, mkH []⟩) ?_ (fun r7 => ?_)
      · refine G_nil ?_
        refine G_then ?_
        refine G_cond (t := (((decide ((p_a.length : Int) > 2000)) || (decide ((p_b.length : Int) < (p_a.length : Int)))) || (decide ((p_c.length : Int) < (p_a.length : Int))))) (by kernel_rfl) (fun _ => ?_) (fun _ => ?_)
        · refine G_seq ?_
          refine G_region ?_
          refine G_op [0] (v := (.val (.bool true))) (E_p (by kernel_rfl)) rfl rfl ?_
          refine G_nil ?_
          refine G_then ?_
          refine G_ret ?_
          refine G_thenR ?_
          refine G_retR ?_
          refine q_some fun hA => ?_
          show outV _ _ = some _
          kernel_rfl
        · refine G_skip ?_
          refine G_then ?_
          refine G_seq ?_
          refine G_region ?_
          refine G_op [1001] (v := (.row [1001] 1 0 0)) (E_a (u := (.row [1001] 1 0 0)) (b := (.row 1 (List.map e_u8 []))) (h' := [([1001], (.row 1 (List.map e_u8 [])))]) (by kernel_rfl) (by kernel_rfl) (by kernel_rfl)) rfl rfl ?_
          refine G_op [0] (v := (.val (.sl 1 (List.map e_u8 p_a)))) (E_p (by kernel_rfl)) rfl rfl ?_
          refine q_guard fun h8 => ?_
          refine G_op [1002] (v := (.row [1002] 1 0 (List.length p_a))) (E_appR (b := [1001]) (xs := []) (ys := p_a) (zs := p_a) (e := e_u8) (h' := [([1001], .dead), ([1002], (.row 1 (List.map e_u8 p_a)))]) (by kernel_rfl) (by kernel_rfl) (by first | rfl | simp) (L_sl (xs := p_a) (e := e_u8)) (by kernel_rfl) h8 (by first | rfl | simp) (by kernel_rfl)) rfl rfl ?_
          refine G_op [0] (v := (.row [1002] 1 0 (List.length p_a))) (E_p (by kernel_rfl)) rfl rfl ?_
          refine G_nil ?_
          refine G_then ?_
          refine G_seq ?_
          refine G_seq ?_
          refine G_region ?_
          refine G_op [0] (v := (.val (.int .i64 0))) (E_p (by kernel_rfl)) rfl rfl ?_
          refine G_nil ?_
          refine G_then ?_
          refine G_loop (enc := fun z9 => ⟨⟨72, [(8, (.val (.int .i64 z9.1))), (7, (.row [1002] 1 0 (List.length z9.2))), (6, (.val (.bool false))), (0, (.val (.sl 1 (List.map e_u8 p_a)))), (1, (.val (.sl 1 (List.map e_u8 p_b)))), (2, (.val (.sl 1 (List.map e_u8 p_c))))]⟩, mkH [([1002], (.row 1 (List.map e_u8 z9.2)))]⟩) (out := fun e10 => ⟨⟨72, [(7, (.row [1002] 1 0 (List.length e10))), (6, (.val (.bool false))), (0, (.val (.sl 1 (List.map e_u8 p_a)))), (1, (.val (.sl 1 (List.map e_u8 p_b)))), (2, (.val (.sl 1 (List.map e_u8 p_c))))]⟩, mkH [([1002], (.row 1 (List.map e_u8 e10)))]⟩) (by exact Sub_keep ⟨.refl _, .refl _, .refl _, .refl _, .refl _, .refl _, trivial⟩ ⟨⟨_, (by kernel_rfl), .refl _⟩, trivial⟩ (by kernel_rfl) (by kernel_rfl)) (fun e10 => ?_) (fun r11 hr11 R z9 => ?_)
          · refine G_then ?_
            refine G_seq ?_
            refine G_draw ?_
            refine X_op (w := (.val (.sl 1 (List.map e_u8 p_a)))) (v := (.val (.sl 1 (List.map e_u8 p_a)))) (E_p (by kernel_rfl)) rfl rfl rfl ?_
            refine q_bind fun v16 hv16 => ?_
            refine X_op (w := (.val (.int .u32 v16))) (v := (.val (.int .u32 v16))) (E_callX (ds := [.sl 1 (List.map e_u8 p_a)]) (ids := []) (r := .int .u32 v16) hc15 (by kernel_rfl) ((hs15 p_a _ (by kernel_rfl)).trans (congrArg _ hv16)) (by kernel_rfl)) rfl rfl rfl ?_
            refine X_op (w := (.val (.sl 1 (List.map e_u8 p_b)))) (v := (.val (.sl 1 (List.map e_u8 p_b)))) (E_p (by kernel_rfl)) rfl rfl rfl ?_
            refine X_op (w := (.val (.sl 1 (List.map e_u8 p_a)))) (v := (.val (.sl 1 (List.map e_u8 p_a)))) (E_p (by kernel_rfl)) rfl rfl rfl ?_
            refine X_op (w := (.val (.int .i64 (p_a.length : Int)))) (v := (.val (.int .i64 (p_a.length : Int)))) (E_len (s := 1) (e := e_u8) (xs := p_a) (by kernel_rfl)) rfl rfl rfl ?_
            refine q_bind fun x17 hx17 => ?_
            refine X_op (w := (.val (.sl 1 (List.map e_u8 x17)))) (v := (.val (.sl 1 (List.map e_u8 x17)))) (E_slice (s := 1) (e := e_u8) (xs := p_b) (a := 0) (b := (p_a.length : Int)) (ys := x17) (by kernel_rfl) (by kernel_rfl) (by kernel_rfl) hx17) rfl rfl rfl ?_
            refine q_bind fun v18 hv18 => ?_
            refine X_op (w := (.val (.int .u32 v18))) (v := (.val (.int .u32 v18))) (E_callX (ds := [.sl 1 (List.map e_u8 x17)]) (ids := []) (r := .int .u32 v18) hc15 (by kernel_rfl) ((hs15 x17 _ (by kernel_rfl)).trans (congrArg _ hv18)) (by kernel_rfl)) rfl rfl rfl ?_
            refine X_op (w := (.val (.int .u32 (bits .xor .u32 v16 v18)))) (v := (.val (.int .u32 (bits .xor .u32 v16 v18)))) (E_p (by kernel_rfl)) rfl rfl rfl ?_
            refine X_op (w := (.val (.sl 1 (List.map e_u8 p_c)))) (v := (.val (.sl 1 (List.map e_u8 p_c)))) (E_p (by kernel_rfl)) rfl rfl rfl ?_
            refine X_op (w := (.val (.sl 1 (List.map e_u8 p_a)))) (v := (.val (.sl 1 (List.map e_u8 p_a)))) (E_p (by kernel_rfl)) rfl rfl rfl ?_
            refine X_op (w := (.val (.int .i64 (p_a.length : Int)))) (v := (.val (.int .i64 (p_a.length : Int)))) (E_len (s := 1) (e := e_u8) (xs := p_a) (by kernel_rfl)) rfl rfl rfl ?_
            refine q_bind fun x19 hx19 => ?_
            refine X_op (w := (.val (.sl 1 (List.map e_u8 x19)))) (v := (.val (.sl 1 (List.map e_u8 x19)))) (E_slice (s := 1) (e := e_u8) (xs := p_c) (a := 0) (b := (p_a.length : Int)) (ys := x19) (by kernel_rfl) (by kernel_rfl) (by kernel_rfl) hx19) rfl rfl rfl ?_
            refine q_bind fun v20 hv20 => ?_
            refine X_op (w := (.val (.int .u32 v20))) (v := (.val (.int .u32 v20))) (E_callX (ds := [.sl 1 (List.map e_u8 x19)]) (ids := []) (r := .int .u32 v20) hc15 (by kernel_rfl) ((hs15 x19 _ (by kernel_rfl)).trans (congrArg _ hv20)) (by kernel_rfl)) rfl rfl rfl ?_
            refine X_op (w := (.val (.int .u32 (bits .xor .u32 (bits .xor .u32 v16 v18) v20)))) (v := (.val (.int .u32 (bits .xor .u32 (bits .xor .u32 v16 v18) v20)))) (E_p (by kernel_rfl)) rfl rfl rfl ?_
            refine X_op (w := (.row [1002] 1 0 (List.length e10))) (v := (.row [1002] 1 0 (List.length e10))) (E_p (by kernel_rfl)) rfl rfl rfl ?_
            refine q_bind fun v21 hv21 => ?_
            refine X_op (w := (.val (.int .u32 v21))) (v := (.val (.int .u32 v21))) (E_callX (ds := [.sl 1 (List.map e_u8 e10)]) (ids := [[1002]]) (r := .int .u32 v21) hc15 (A_cons (A_row (xs := e10) (e := e_u8) (by kernel_rfl) (by first | rfl | simp)) A_nil) ((hs15 e10 _ (by kernel_rfl)).trans (congrArg _ hv21)) (by kernel_rfl)) rfl rfl rfl ?_
            refine X_op (w := (.val (.int .u32 (bits .xor .u32 (bits .xor .u32 (bits .xor .u32 v16 v18) v20) v21)))) (v := (.val (.int .u32 (bits .xor .u32 (bits .xor .u32 (bits .xor .u32 v16 v18) v20) v21)))) (E_p (by kernel_rfl)) rfl rfl rfl ?_
            refine X_op (w := (.val (.bool ((bits .xor .u32 (bits .xor .u32 (bits .xor .u32 v16 v18) v20) v21) == 0)))) (v := (.val (.bool ((bits .xor .u32 (bits .xor .u32 (bits .xor .u32 v16 v18) v20) v21) == 0)))) (E_p (by kernel_rfl)) rfl rfl rfl ?_
            refine X_op (w := (.val (.bool ((bits .xor .u32 (bits .xor .u32 (bits .xor .u32 v16 v18) v20) v21) == 0)))) (v := (.val (.bool ((bits .xor .u32 (bits .xor .u32 (bits .xor .u32 v16 v18) v20) v21) == 0)))) (E_p (by kernel_rfl)) rfl rfl rfl ?_
            refine X_nil (m := [(6, (.val (.bool ((bits .xor .u32 (bits .xor .u32 (bits .xor .u32 v16 v18) v20) v21) == 0))))]) (by exact ⟨rfl, trivial⟩) ?_
            refine G_then ?_
            refine G_ret ?_
            refine G_retR ?_
            refine q_some fun hA => ?_
            show outV _ _ = some _
            kernel_rfl
          · unfold g_snafflelaw02_CrcTurns_l0
            refine G_seq ?_
            refine G_seq ?_
            refine G_region ?_
            refine G_op [0] (v := (.val (.int .i64 z9.1))) (E_p (by kernel_rfl)) rfl rfl ?_
            refine G_op [0] (v := (.row [1002] 1 0 (List.length z9.2))) (E_p (by kernel_rfl)) rfl rfl ?_
            refine G_op [0] (v := (.val (.int .i64 (((List.length z9.2) : Nat) : Int)))) (E_p (by kernel_rfl)) rfl rfl ?_
            refine G_op [0] (v := (.val (.bool (decide (z9.1 < (((List.length z9.2) : Nat) : Int)))))) (E_p (by kernel_rfl)) rfl rfl ?_
            refine G_nil ?_
            refine G_then ?_
            refine G_cond (t := (decide (z9.1 < (((List.length z9.2) : Nat) : Int)))) (by kernel_rfl) (fun _ => ?_) (fun _ => ?_)
            · refine G_skip ?_
              refine G_then ?_
              refine G_seq ?_
              refine G_block ?_
              refine G_draw ?_
              refine X_op (w := (.row [1002] 1 0 (List.length z9.2))) (v := (.row [1002] 1 0 (List.length z9.2))) (E_p (by kernel_rfl)) rfl rfl rfl ?_
              refine X_op (w := (.val (.int .i64 z9.1))) (v := (.val (.int .i64 z9.1))) (E_p (by kernel_rfl)) rfl rfl rfl ?_
              refine X_op (w := (.val (.sl 1 (List.map e_u8 p_a)))) (v := (.val (.sl 1 (List.map e_u8 p_a)))) (E_p (by kernel_rfl)) rfl rfl rfl ?_
              refine X_op (w := (.val (.int .i64 z9.1))) (v := (.val (.int .i64 z9.1))) (E_p (by kernel_rfl)) rfl rfl rfl ?_
              refine q_bind fun x12 hx12 => ?_
              refine X_op (w := (.val (.pt [(.int .u8 x12)]))) (v := (.val (.pt [(.int .u8 x12)]))) (E_soff (s := 1) (e := e_u8) (xs := p_a) (n := z9.1) (a := x12) (by kernel_rfl) (by kernel_rfl) hx12) rfl rfl rfl ?_
              refine X_op (w := (.val (.int .u8 x12))) (v := (.val (.int .u8 x12))) (E_load (by kernel_rfl)) rfl rfl rfl ?_
              refine X_op (w := (.val (.sl 1 (List.map e_u8 p_b)))) (v := (.val (.sl 1 (List.map e_u8 p_b)))) (E_p (by kernel_rfl)) rfl rfl rfl ?_
              refine X_op (w := (.val (.int .i64 z9.1))) (v := (.val (.int .i64 z9.1))) (E_p (by kernel_rfl)) rfl rfl rfl ?_
              refine q_bind fun x13 hx13 => ?_
              refine X_op (w := (.val (.pt [(.int .u8 x13)]))) (v := (.val (.pt [(.int .u8 x13)]))) (E_soff (s := 1) (e := e_u8) (xs := p_b) (n := z9.1) (a := x13) (by kernel_rfl) (by kernel_rfl) hx13) rfl rfl rfl ?_
              refine X_op (w := (.val (.int .u8 x13))) (v := (.val (.int .u8 x13))) (E_load (by kernel_rfl)) rfl rfl rfl ?_
              refine X_op (w := (.val (.int .u8 (bits .xor .u8 x12 x13)))) (v := (.val (.int .u8 (bits .xor .u8 x12 x13)))) (E_p (by kernel_rfl)) rfl rfl rfl ?_
              refine X_op (w := (.val (.sl 1 (List.map e_u8 p_c)))) (v := (.val (.sl 1 (List.map e_u8 p_c)))) (E_p (by kernel_rfl)) rfl rfl rfl ?_
              refine X_op (w := (.val (.int .i64 z9.1))) (v := (.val (.int .i64 z9.1))) (E_p (by kernel_rfl)) rfl rfl rfl ?_
              refine q_bind fun x14 hx14 => ?_
              refine X_op (w := (.val (.pt [(.int .u8 x14)]))) (v := (.val (.pt [(.int .u8 x14)]))) (E_soff (s := 1) (e := e_u8) (xs := p_c) (n := z9.1) (a := x14) (by kernel_rfl) (by kernel_rfl) hx14) rfl rfl rfl ?_
              refine X_op (w := (.val (.int .u8 x14))) (v := (.val (.int .u8 x14))) (E_load (by kernel_rfl)) rfl rfl rfl ?_
              refine X_op (w := (.val (.int .u8 (bits .xor .u8 (bits .xor .u8 x12 x13) x14)))) (v := (.val (.int .u8 (bits .xor .u8 (bits .xor .u8 x12 x13) x14)))) (E_p (by kernel_rfl)) rfl rfl rfl ?_
              refine q_bind fun x15 hx15 => ?_
              refine X_op (w := (.elt [1002] (0 + Int.toNat z9.1) 0)) (v := (.elt [1002] (0 + Int.toNat z9.1) 0)) (E_soffR (b := [1002]) (xs := z9.2) (n' := z9.1) (a := x15) (by kernel_rfl) (by kernel_rfl) (by first | rfl | simp) hx15) rfl rfl rfl ?_
              refine X_op0 (v := (.val (.tup []))) (E_storeE (s := 1) (b := [1002]) (o := 0) (xs := z9.2) (e := e_u8) (n' := z9.1) (a := x15) (a' := (bits .xor .u8 (bits .xor .u8 x12 x13) x14)) (cs := [(.val (.int .u8 (bits .xor .u8 (bits .xor .u8 x12 x13) x14)))]) (ds := [(.int .u8 (bits .xor .u8 (bits .xor .u8 x12 x13) x14))]) (h' := [([1002], (.row 1 (List.map e_u8 (List.set z9.2 (Int.toNat z9.1) (bits .xor .u8 (bits .xor .u8 x12 x13) x14)))))]) (by kernel_rfl) (by kernel_rfl) (by kernel_rfl) rfl (by kernel_rfl) (by kernel_rfl) hx15 (by kernel_rfl) (by kernel_rfl) (by kernel_rfl)) rfl ?_
              refine X_nil (m := [(8, (.val (.int .i64 z9.1))), (7, (.row [1002] 1 0 (List.length z9.2))), (6, (.val (.bool false))), (0, (.val (.sl 1 (List.map e_u8 p_a)))), (1, (.val (.sl 1 (List.map e_u8 p_b)))), (2, (.val (.sl 1 (List.map e_u8 p_c))))]) (by exact ⟨rfl, rfl, rfl, rfl, rfl, rfl, trivial⟩) ?_
              refine G_inB ?_
              refine G_then ?_
              refine G_region ?_
              refine G_op [0] (v := (.val (.int .i64 z9.1))) (E_p (by kernel_rfl)) rfl rfl ?_
              refine G_op [0] (v := (.val (.int .i64 (IntKind.wrap .i64 (z9.1 + 1))))) (E_p (by kernel_rfl)) rfl rfl ?_
              refine G_op [0] (v := (.val (.int .i64 (IntKind.wrap .i64 (z9.1 + 1))))) (E_p (by kernel_rfl)) rfl rfl ?_
              refine G_nil ?_
              refine G_then ?_
              exact q_some fun h => h _ (by exact Sub_env ⟨.refl _, (.of_eq (by simp)), .refl _, .refl _, .refl _, .refl _, trivial⟩)
            · refine G_exit ?_
              refine G_thenX ?_
              refine G_thenX ?_
              refine G_inBX ?_
              exact q_some fun h => (QN_then : QN _ _) _ _ (by exact Sub_env ⟨.refl _, .refl _, .refl _, .refl _, .refl _, trivial⟩) h
      · refine q_two ((decide ((p_a.length : Int) > 2000)) || (decide ((p_b.length : Int) < (p_a.length : Int)))) (fun h5 => ?_) (fun h5 => ?_)
        · refine G_subR (Sub_lit (t := 21) (v := true) rfl h5) ?_
          refine G_off rfl rfl ?_
          refine G_off rfl rfl ?_
          refine G_off rfl rfl ?_
          refine G_off rfl rfl ?_
          refine G_off rfl rfl ?_
          refine G_op [0] (v := (.val (.bool true))) (E_p (by kernel_rfl)) rfl rfl ?_
          exact q_some fun h => RP_sub (by exact Sub_env ⟨(Wk_or1 h5), .refl _, .refl _, .refl _, .refl _, trivial⟩) h
        · refine G_subR (Sub_lit (t := 21) (v := false) rfl h5) ?_
          refine G_op [0] (v := (.val (.sl 1 (List.map e_u8 p_c)))) (E_p (by kernel_rfl)) rfl rfl ?_
          refine G_op [0] (v := (.val (.int .i64 (p_c.length : Int)))) (E_len (s := 1) (e := e_u8) (xs := p_c) (by kernel_rfl)) rfl rfl ?_
          refine G_op [0] (v := (.val (.sl 1 (List.map e_u8 p_a)))) (E_p (by kernel_rfl)) rfl rfl ?_
          refine G_op [0] (v := (.val (.int .i64 (p_a.length : Int)))) (E_len (s := 1) (e := e_u8) (xs := p_a) (by kernel_rfl)) rfl rfl ?_
          refine G_op [0] (v := (.val (.bool (decide ((p_c.length : Int) < (p_a.length : Int)))))) (E_p (by kernel_rfl)) rfl rfl ?_
          refine G_op [0] (v := (.val (.bool (decide ((p_c.length : Int) < (p_a.length : Int)))))) (E_p (by kernel_rfl)) rfl rfl ?_
          exact q_some fun h => RP_sub (by exact Sub_env ⟨(Wk_or0 h5), .refl _, .refl _, .refl _, .refl _, trivial⟩) h
    · refine q_two (decide ((p_a.length : Int) > 2000)) (fun h2 => ?_) (fun h2 => ?_)
      · refine G_subR (Sub_lit (t := 14) (v := true) rfl h2) ?_
        refine G_off rfl rfl ?_
        refine G_off rfl rfl ?_
        refine G_off rfl rfl ?_
        refine G_off rfl rfl ?_
        refine G_off rfl rfl ?_
        refine G_op [0] (v := (.val (.bool true))) (E_p (by kernel_rfl)) rfl rfl ?_
        exact q_some fun h => RP_sub (by exact Sub_env ⟨(Wk_or1 h2), .refl _, .refl _, .refl _, .refl _, trivial⟩) h
      · refine G_subR (Sub_lit (t := 14) (v := false) rfl h2) ?_
        refine G_op [0] (v := (.val (.sl 1 (List.map e_u8 p_b)))) (E_p (by kernel_rfl)) rfl rfl ?_
        refine G_op [0] (v := (.val (.int .i64 (p_b.length : Int)))) (E_len (s := 1) (e := e_u8) (xs := p_b) (by kernel_rfl)) rfl rfl ?_
        refine G_op [0] (v := (.val (.sl 1 (List.map e_u8 p_a)))) (E_p (by kernel_rfl)) rfl rfl ?_
        refine G_op [0] (v := (.val (.int .i64 (p_a.length : Int)))) (E_len (s := 1) (e := e_u8) (xs := p_a) (by kernel_rfl)) rfl rfl ?_
        refine G_op [0] (v := (.val (.bool (decide ((p_b.length : Int) < (p_a.length : Int)))))) (E_p (by kernel_rfl)) rfl rfl ?_
        refine G_op [0] (v := (.val (.bool (decide ((p_b.length : Int) < (p_a.length : Int)))))) (E_p (by kernel_rfl)) rfl rfl ?_
        exact q_some fun h => RP_sub (by exact Sub_env ⟨(Wk_or0 h2), .refl _, .refl _, .refl _, .refl _, trivial⟩) h
theorem s6 (x0 : (List Int)) (x1 : (List Int)) (x2 : (List Int)) (ds : List DV) (hd : List.map z1 ds = List.map z1 [.sl 1 (List.map e_u8 x0), .sl 1 (List.map e_u8 x1), .sl 1 (List.map e_u8 x2)]) : sp6 ds = (g_snafflelaw02_CrcTurns x0 x1 x2).map fun r => .bool r :=
  specT_at (ea := fun (a : (List Int) × (List Int) × (List Int)) => [.sl 1 (List.map e_u8 a.1), .sl 1 (List.map e_u8 a.2.1), .sl 1 (List.map e_u8 a.2.2)]) (eb := fun (r : Bool) => .bool r) (g := fun (a : (List Int) × (List Int) × (List Int)) => g_snafflelaw02_CrcTurns a.1 a.2.1 a.2.2) inj6 (x0, x1, x2) hd
end Go.AI
