/- Running abstract states by rewriting. -/
import Derived.Test.YtpolaeonmmolnaaAIy
namespace Go.AI
set_option linter.unusedVariables false
set_option linter.unusedSimpArgs false

def runQ (C : FuncId → Con) (ns : Id) : List AIns → (St → Prop) → St → Prop
  | [], K, s => K s
  | i :: l, K, s => match eff C ns s i with
    | some (x, H) => runQ C ns l K ⟨putE s.env i.dst x, H⟩
    | none => False

theorem runQ_iff (C : FuncId → Con) (ns : Id) : ∀ (l : List AIns) (K : St → Prop) (s : St), runQ C ns l K s ↔ ∃ s', run C ns l s = some s' ∧ K s'
  | [], K, s => by simp [runQ, run]
  | i :: l, K, s => by
    unfold runQ run step
    cases h : eff C ns s i with
    | none => simp
    | some q =>
      obtain ⟨x, H⟩ := q
      simp only
      exact runQ_iff C ns l K _

section
variable {C : FuncId → Con} {ns : Id} {B : Id → Prop} {Q : Exit → St → Prop} {s : St} {x y : ACode}

theorem wpA_region {ops : List AIns} : wpA C ns B (.region ops) Q s ↔ runQ C ns ops (Q .normal) s := (runQ_iff C ns ops _ s).symm
/-- A region that draws its order: run in its own order; what is still known then. -/
theorem wpA_draw {ops : List AIns} : wpA C ns B (.draw ops) Q s ↔ runQ (flatC C) ns ops (fun s' => ∃ l, Has s'.env.l l ∧ Q .normal ⟨⟨s'.env.n, l⟩, s'.H⟩) s := by
  rw [runQ_iff]
  exact ⟨fun ⟨s', l, h1, h2, h3⟩ => ⟨s', h1, l, h2, h3⟩, fun ⟨s', h1, l, h2, h3⟩ => ⟨s', l, h1, h2, h3⟩⟩
theorem wpA_seq : wpA C ns B (.seq x y) Q s ↔ wpA C ns B x (thenA (wpA C ns B y Q) Q) s := Iff.rfl
theorem wpA_block {n : Nat} : wpA C ns B (.block n x) Q s ↔ wpA C ns B x (inBlockA n Q) s := Iff.rfl
theorem wpA_exit {n : Nat} : wpA C ns B (.exit n) Q s ↔ Q (.exit n) s := Iff.rfl
theorem wpA_ret : wpA C ns B .ret Q s ↔ Q .ret s := Iff.rfl
theorem wpA_skip : wpA C ns B .skip Q s ↔ Q .normal s := Iff.rfl

/-- What comes first, for whatever comes behind it. -/
theorem seq_k (h : ∀ K : St → Prop, (∀ s, wpA C ns B y Q s → K s) → wpA C ns B x (thenA K Q) s) : wpA C ns B (.seq x y) Q s := h _ fun _ h => h

theorem runQ_append (l m : List AIns) (K : St → Prop) (s : St) : runQ C ns (l ++ m) K s ↔ runQ C ns l (runQ C ns m K) s := by
  induction l generalizing s with
  | nil => exact Iff.rfl
  | cons i l ih =>
    simp only [List.cons_append, runQ]
    split
    · exact ih _
    · exact Iff.rfl

/-- The first operations of a region, for whatever comes behind them. -/
theorem region_k {l m : List AIns} (h : ∀ K : St → Prop, (∀ s, wpA C ns B (.region m) Q s → K s) → runQ C ns l K s) : wpA C ns B (.region (l ++ m)) Q s := by
  rw [wpA_region, runQ_append]
  exact h _ fun s h => wpA_region.1 h

/-- A branch. -/
def branch (v : AV) (p q : Prop) : Prop := match v with
  | .val (.bool t) => (t = true → p) ∧ (t = false → q)
  | _ => False

theorem wpA_cond {c : Opd} : wpA C ns B (.cond c x y) Q s ↔ branch (unw true (evE s.env c)) (wpA C ns B x Q s) (wpA C ns B y Q s) := by
  constructor
  · rintro ⟨t, h1, h2, h3⟩
    rw [h1]
    exact ⟨h2, h3⟩
  · intro h
    generalize hv : unw true (evE s.env c) = v at h
    cases v <;> simp only [branch] at h
    rename_i d
    cases d <;> simp only at h
    rename_i t
    exact ⟨t, hv, h.1, h.2⟩

end

theorem Sub.forget {B : Id → Prop} {n : Nat} {l m : List (Nat × AV)} {H : Hp} (h : Has l m) : Sub B ⟨⟨n, l⟩, H⟩ ⟨⟨n, m⟩, H⟩ := Sub.env (s := ⟨⟨n, l⟩, H⟩) h.get

attribute [simp] runQ wpA_region wpA_draw flatC wpA_seq wpA_block wpA_exit wpA_ret wpA_skip wpA_cond branch thenA inBlockA retQ eff gv effG calm semE semP semR evE look enumE Has unw putE env0 idOf binD unD AV.num pickV AV.moved AV.part AV.cells ofCells ofDCells loadA upd_mkH setH mkH_nil mkH_cons optNum bounds DV.single AV.single semA semW semC callD argD argDs DV.norm DV.norm1 DV.flat DV.scalar fix outA ress res1 outV outD

end Go.AI
