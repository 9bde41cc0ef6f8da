/- What writes: appends. -/
import Derived.Test.YtpolaeonmmolnaaAIq
namespace Go.AI
set_option linter.unusedVariables false
set_option linter.unusedSimpArgs false
section
variable {P : Program} {J : Id → JI} {F : Nat → Prop} {w : World} {H : Hp} {ρ : Opd → AV} {a : Act}

/-- A source of an append: so many elements, whose cells are these, in this world and behind a draw. -/
def Source (P : Program) (w : World) (size m : Nat) (y : Value) (news : List Value) : Prop :=
  (∀ w', w'.heap = w.heap → (Builtin.lenOf y).run P w' = .ok m w' ∧ (Builtin.firstCells size m y).run P w' = .ok news.toArray w') ∧ news.length = m * size

theorem append_room {t u ty e : TypeId} {i : TypeInfo} {du : TypeDesc} (ht : P.underlying t = some (.slice e)) (hi : P.info? e = some i) (hu : P.underlying u = some du) (hdu : (∃ e', du = .slice e') ∨ du = .string)
    {p : Option Addr} {n c m : Nat} {y : Value} {news : List Value} (hs : Source P w i.size m y news) (hroom : n + m ≤ c) {w' : World} (hst : ∀ b, p = some b → (storeCells (b.add (n * i.size)) news).run P w = .ok () w') (hnone : p = none → w' = w) :
    (Builtin.append_ #[t, u] ty #[.slice p n c, y]).run P w = .ok (.slice p (n + m) c) w' := by
  obtain ⟨h1, h2⟩ := hs.1 w rfl
  cases p with
  | none =>
    obtain rfl := hnone rfl
    rcases hdu with ⟨e', rfl⟩ | rfl <;> simp [Builtin.append_, run_underlying ht, run_underlying hu, sizeOf, typeInfo, hi, h1, hroom, h2]
  | some b =>
    have h3 := hst b rfl
    rcases hdu with ⟨e', rfl⟩ | rfl <;> simp [Builtin.append_, run_underlying ht, run_underlying hu, sizeOf, typeInfo, hi, h1, hroom, h2, h3]

theorem append_grow {t u ty e : TypeId} {i : TypeInfo} {z : Value} {du : TypeDesc} (ht : P.underlying t = some (.slice e)) (hi : P.info? e = some i) (hz : i.zero = some z) (hu : P.underlying u = some du) (hdu : (∃ e', du = .slice e') ∨ du = .string)
    {p : Option Addr} {n c m : Nat} {y : Value} {olds news : List Value} (hs : Source P w i.size m y news) (ho : ∀ w', w'.heap = w.heap → (Builtin.firstCells i.size n (.slice p n c)).run P w' = .ok olds.toArray w') (hgrow : ¬ n + m ≤ c) (h63 : n + m ≤ 9223372036854775807) (hfit : (n + m) * i.bytes ≤ 140737488355328) :
    (Builtin.append_ #[t, u] ty #[.slice p n c, y]).run P w = .ok (.slice (some ⟨w.heap.size, 0, none⟩) (n + m) (grownCap w (n + m) c e))
      (w.drew.alloc (.cells ((olds ++ news).toArray ++ Builtin.zeroCells z.cells (grownCap w (n + m) c e - (n + m))) e)) := by
  obtain ⟨h1, _⟩ := hs.1 w rfl
  obtain ⟨_, h2⟩ := hs.1 w.drew rfl
  have h3 := ho w.drew rfl
  have h63' : ¬ (9223372036854775807 < ((n : Int) + (m : Int))) := by omega
  have hf := growslice_fits (old := c) (by omega) hfit
  have h48' : ¬ (281474976710656 < Builtin.nextslicecap (n + m) c * i.bytes) := by omega
  rcases hdu with ⟨e', rfl⟩ | rfl <;> simp [Builtin.append_, run_underlying ht, run_underlying hu, sizeOf, typeInfo, zeroValue, hi, hz, h1, hgrow, h63', h48', Question.forced, h2, h3, newRow, grownCap]
  all_goals
    congr 2
    apply Array.ext'
    simp [List.append_assoc]

end
end Go.AI
