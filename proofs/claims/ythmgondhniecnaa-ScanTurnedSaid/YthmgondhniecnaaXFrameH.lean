/- frame: a frame is read from its bytes as it was; two frames have the same bytes just if they are the same; bytes that are read are those of what is read. -/
import Derived.Test.YthmgondhniecnaaXFrameG
namespace Go.AI
theorem mkS_inj {a b : List Nat} (ha : byt a) (hb : byt b) : (mkS (ints a) = mkS (ints b)) ↔ a = b := by
  constructor
  · intro h
    unfold mkS at h
    injection h with h
    have h := congrArg Array.toList h
    simp only [ints, List.map_map] at h
    have : ∀ (a b : List Nat), byt a → byt b → List.map ((fun n : Int => UInt8.ofNat n.toNat) ∘ fun n : Nat => (n : Int)) a = List.map ((fun n : Int => UInt8.ofNat n.toNat) ∘ fun n : Nat => (n : Int)) b → a = b := by
      intro a
      induction a with
      | nil => intro b _ _ h; cases b <;> simp_all
      | cons x a ih =>
        intro b ha hb h
        cases b with
        | nil => simp at h
        | cons y b =>
          simp only [List.map_cons, List.cons.injEq] at h
          rw [ih b (fun z hz => ha z (List.mem_cons_of_mem _ hz)) (fun z hz => hb z (List.mem_cons_of_mem _ hz)) h.2]
          have hx := ha x (List.mem_cons_self ..)
          have hy := hb y (List.mem_cons_self ..)
          have h1 := congrArg UInt8.toNat h.1
          simp only [Function.comp, Int.toNat_natCast, UInt8.toNat_ofNat'] at h1
          have : x = y := by omega
          rw [this]
    exact this a b ha hb (by simpa using h)
  · intro h; rw [h]
def eqF (f g : FrmR) : Bool := (f.1 == g.1) && ((f.2.1 == g.2.1) && ((f.2.2.1 == g.2.2.1) && ((f.2.2.2.1.1 == g.2.2.2.1.1) && ((f.2.2.2.1.2.1 == g.2.2.2.1.2.1) && ((f.2.2.2.1.2.2.1 == g.2.2.2.1.2.2.1) && ((f.2.2.2.1.2.2.2.1 == g.2.2.2.1.2.2.2.1) && ((f.2.2.2.1.2.2.2.2.1 == g.2.2.2.1.2.2.2.2.1) && ((f.2.2.2.1.2.2.2.2.2.1 == g.2.2.2.1.2.2.2.2.2.1) && true))))))))
theorem eqF_iff (f g : FrmR) : eqF f g = true ↔ f = g := by
  obtain ⟨f1, f2, f3, ⟨f4, f5, f6, f7, f8, f9, ⟨⟩⟩, ⟨⟩⟩ := f
  obtain ⟨g1, g2, g3, ⟨g4, g5, g6, g7, g8, g9, ⟨⟩⟩, ⟨⟩⟩ := g
  simp [eqF, Prod.ext_iff]
theorem rgF {f : FrmR} (h : Rg shFrame f) : FrmIn f := by
  obtain ⟨h1, h2, h3, ⟨h4, h5, h6, h7, h8, h9, _⟩, _⟩ := h
  exact ⟨wf_i64 h1, wf_i64 h2, wf_i64 h3, wf_i64 h4, wf_i64 h5, wf_i64 h6, wf_i64 h7, wf_i64 h8, wf_i64 h9⟩
theorem pure_FrameBack (a : FrmR × (FrmR × (List Int × Unit))) (h : Rg (consS [shFrame, shFrame, .slice 1 (.int .u8)]) a) : g_law04_FrameBack a = some true := by
  obtain ⟨f, g, xs, u⟩ := a
  obtain ⟨hf, hg, hx, _⟩ := h
  obtain ⟨bs, rfl, hb⟩ := ints_of (xs := xs) fun x hxs => hx.2 x hxs
  have hb : byt bs := hb
  have fi := rgF hf
  have gi := rgF hg
  have hD : g_frame_Decode (ints bs, u) = some (decF bs) := frame_Decode bs hb
  unfold g_law04_FrameBack
  rw [frame_awake]
  by_cases hl : decide (((ints bs).length : Int) > 200) = true
  · simp only [Option.bind_some, Bool.not_true, cond_false, hl, cond_true]
  have hl' : decide (((ints bs).length : Int) > 200) = false := by simpa using hl
  simp only [Option.bind_some, Bool.not_true, cond_false, hl', hD, frame_Enc, frame_Right]
  have second : (bif (((encF f).2.1 != 0) || ((encF g).2.1 != 0)) then (bif ((encF f).2.1 == 0) == frmB f then (some (frmB g)).bind (fun v => some (((encF g).2.1 == 0) == v)) else some false).bind (fun v => some v)
      else ((g_frame_Decode ((encF f).1, ()))).bind (fun v13 => (bif ((v13.2.1 == 0) && eqF v13.1 f) then some ((decide ((mkS (encF f).1) = (mkS (encF g).1))) == eqF f g) else some false).bind (fun v => some v))) = some true := by
    unfold encF
    by_cases h1 : frmB f = true
    · by_cases h2 : frmB g = true
      · simp only [if_pos h1, if_pos h2]
        rw [frame_Decode _ (codeF_byt f), dec_code f h1 fi]
        have e1 : eqF f f = true := (eqF_iff f f).2 rfl
        have e2 : decide (mkS (ints (codeF f)) = mkS (ints (codeF g))) = eqF f g := by
          rw [Bool.eq_iff_iff, decide_eq_true_eq, mkS_inj (codeF_byt f) (codeF_byt g), eqF_iff]
          exact ⟨code_inj h1 h2 fi gi, fun h => by rw [h]⟩
        simp [e1, e2]
      · simp [h1, h2]
    · by_cases h2 : frmB g = true
      · simp [h1, h2]
      · simp [h1, h2]
  by_cases hd : (decF bs).2.1 = 0
  · have hp : decF bs = ((decF bs).1, (0, ())) := by rw [← hd]
    obtain ⟨h1, h2, h3, h4⟩ := code_dec hb hp
    have e1 : encF (decF bs).1 = (ints bs, (0, ())) := by unfold encF; rw [if_pos h1, h2]
    simp only [hd, e1, h1, beq_self_eq_true, bne_self_eq_false, cond_true, cond_false, Option.bind_some, decide_true, Bool.not_true]
    exact second
  · have hn := dec_err hd
    have e0 : ((decF bs).2.1 == 0) = false := by simpa using hd
    simp only [e0, cond_false, hn]
    refine Eq.trans ?_ second
    rfl
end Go.AI
