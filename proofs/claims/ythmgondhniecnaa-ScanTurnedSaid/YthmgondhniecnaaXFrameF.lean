/- frame: any frame's bytes, and any bytes' frame, are what the document says. -/
import Derived.Test.YthmgondhniecnaaXFrameE
namespace Go.AI
theorem frame_awake : g_law04_awake () = some true := by
  have e1 := frame_Encode (1, (2, (4, (((-1), (0, (3, (0, (0, (0, ())))))), ())))) (e := 1) (l := 2) (k := 4) (b1 := 18446744073709551615) (b2 := 0) (b3 := 3) (b4 := 0) (b5 := 0) (b6 := 0) rfl rfl rfl rfl rfl rfl rfl rfl rfl
  have e2 := frame_Encode (1, (2, (0, ((0, (0, (0, (0, (0, (0, ())))))), ())))) (e := 1) (l := 2) (k := 0) (b1 := 0) (b2 := 0) (b3 := 0) (b4 := 0) (b5 := 0) (b6 := 0) rfl rfl rfl rfl rfl rfl rfl rfl rfl
  have r1 : frmB (1, (2, (4, (((-1), (0, (3, (0, (0, (0, ())))))), ())))) = true := by kernel_rfl
  have r2 : frmB (1, (2, (0, ((0, (0, (0, (0, (0, (0, ())))))), ())))) = false := by kernel_rfl
  rw [r1, if_pos rfl] at e1
  rw [r2, if_neg (by decide)] at e2
  have hb : byt (codeN 1 2 4 18446744073709551615 0 3 0 0 0) := by
    intro x hx
    unfold codeN at hx
    rcases List.mem_append.1 hx with h | h
    · exact textN_lt _ _ _ _ _ _ _ _ _ x h
    · simp only [le4, List.mem_cons, List.not_mem_nil, or_false] at h
      omega
  have d1 := frame_Decode _ hb
  have d2 : decF (codeN 1 2 4 18446744073709551615 0 3 0 0 0) = ((1, (2, (4, (((-1), (0, (3, (0, (0, (0, ())))))), ())))), (0, ())) := by kernel_rfl
  have l1 : (ints (codeN 1 2 4 18446744073709551615 0 3 0 0 0)).length = 72 := by kernel_rfl
  unfold g_law04_awake
  rw [e1, e2]
  simp only [Option.bind_some, d1, d2, l1, frame_Right, r1]
  rfl
theorem codeN_length (e l k b1 b2 b3 b4 b5 b6 : Nat) : (codeN e l k b1 b2 b3 b4 b5 b6).length = 72 := by
  unfold codeN
  rw [List.length_append, textN_length, le4_length]
theorem pure_FrameRight (a : FrmR × (List Int × Unit)) (h : Rg (consS [shFrame, .slice 1 (.int .u8)]) a) : g_law04_FrameRight a = some true := by
  obtain ⟨f, xs, u⟩ := a
  obtain ⟨_, hx, _⟩ := h
  obtain ⟨bs, rfl, hb⟩ := ints_of (xs := xs) fun x hxs => hx.2 x hxs
  obtain ⟨e, h1, _⟩ := u64_nat f.1
  obtain ⟨l, h2, _⟩ := u64_nat f.2.1
  obtain ⟨k, h3, _⟩ := u64_nat f.2.2.1
  obtain ⟨b1, h4, _⟩ := u64_nat f.2.2.2.1.1
  obtain ⟨b2, h5, _⟩ := u64_nat f.2.2.2.1.2.1
  obtain ⟨b3, h6, _⟩ := u64_nat f.2.2.2.1.2.2.1
  obtain ⟨b4, h7, _⟩ := u64_nat f.2.2.2.1.2.2.2.1
  obtain ⟨b5, h8, _⟩ := u64_nat f.2.2.2.1.2.2.2.2.1
  obtain ⟨b6, h9, _⟩ := u64_nat f.2.2.2.1.2.2.2.2.2.1
  have hE := frame_Encode f h1 h2 h3 h4 h5 h6 h7 h8 h9
  have hR := ref_Encode f h1 h2 h3 h4 h5 h6 h7 h8 h9
  have hD := frame_Decode bs hb
  have hS := ref_Decode bs hb
  unfold g_law04_FrameRight
  rw [frame_awake]
  by_cases hl : decide (((ints bs).length : Int) > 200) = true
  · simp only [Option.bind_some, Bool.not_true, cond_false, hl, cond_true]
  have hl' : decide (((ints bs).length : Int) > 200) = false := by
    cases e : decide (((ints bs).length : Int) > 200)
    · rfl
    · exact absurd e hl
  have hD' : g_frame_Decode (ints bs, u) = some (decF bs) := hD
  have hS' : g_ref04_Decode (ints bs, u) = some (decF bs) := hS
  simp only [Option.bind_some, Bool.not_true, cond_false, hl', ref04_Right, frame_Right, hE, hR, hD', hS', bne_self_eq_false]
  cases hf : frmB f <;> simp
end Go.AI
