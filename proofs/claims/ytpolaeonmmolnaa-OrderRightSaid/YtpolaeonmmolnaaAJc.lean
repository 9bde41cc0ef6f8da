/- Contracts, one after the other; numbers; bytes. -/
import Derived.Test.YtpolaeonmmolnaaAJb
import Derived.Laws.BitsAllLaws
import Derived.Laws.Runes
namespace Go.AI
set_option linter.unusedVariables false
set_option linter.unusedSimpArgs false

def noC : FuncId → Con := fun _ => .none
def addC (C : FuncId → Con) (f : FuncId) (c : Con) : FuncId → Con := fun g => if g = f then c else C g

theorem noC_ok {P : Program} : ConOk P noC := fun _ => trivial
theorem addC_val {P : Program} {C : FuncId → Con} {f : FuncId} {spec : List DV → Option DV} (h : ConOk P C) (hv : ValOk P f spec) : ConOk P (addC C f (.val spec)) := by
  intro g
  unfold addC
  by_cases e : g = f
  · subst e; simp only [if_true]; exact hv
  · simp only [if_neg e]; exact h g

attribute [simp] addC

/-- Rows of bytes. -/
def byteRows (ns : List Nat) : List (List DV) := ns.map fun n : Nat => [.int .u8 (n : Int)]

def bytesN : List (List DV) → Option (List Nat)
  | [] => some []
  | [.int .u8 n] :: l => if 0 ≤ n ∧ n < 256 then (bytesN l).map (n.toNat :: ·) else none
  | _ => none

theorem bytesN_rows : ∀ {ns : List Nat}, (∀ n ∈ ns, n < 256) → bytesN (byteRows ns) = some ns
  | [], _ => rfl
  | n :: l, h => by
    have h1 := h n (by simp)
    have ih := bytesN_rows (ns := l) (fun x hx => h x (by simp [hx]))
    simp only [byteRows, List.map_cons, bytesN] at ih ⊢
    rw [if_pos (by omega), ih]
    simp

theorem bytesN_inv : ∀ {l : List (List DV)} {ns : List Nat}, bytesN l = some ns → l = byteRows ns ∧ ∀ n ∈ ns, n < 256
  | [], ns, h => by
    simp only [bytesN, Option.some.injEq] at h
    subst h
    exact ⟨rfl, by simp⟩
  | y :: l, ns, h => by
    unfold bytesN at h
    split at h
    · cases ‹_ = []›
    · rename_i n l' he
      cases he
      split at h
      · rename_i hn
        simp only [Option.map_eq_some_iff] at h
        obtain ⟨ms, h, rfl⟩ := h
        obtain ⟨rfl, h2⟩ := bytesN_inv h
        refine ⟨?_, ?_⟩
        · simp only [byteRows, List.map_cons]
          rw [Int.toNat_of_nonneg hn.1]
        · intro m hm
          rcases List.mem_cons.1 hm with rfl | hm
          · omega
          · exact h2 m hm
      · cases h
    · cases h

theorem wf_u8 {n : Int} (h : (Lit.int .u8 n).wf = true) : 0 ≤ n ∧ n < 256 := by
  simp [Lit.wf, IntKind.min, IntKind.max, IntKind.signed, IntKind.bits] at h
  omega
theorem wf_u32 {n : Int} (h : (Lit.int .u32 n).wf = true) : 0 ≤ n ∧ n < 4294967296 := by
  simp [Lit.wf, IntKind.min, IntKind.max, IntKind.signed, IntKind.bits] at h
  omega
theorem wf_u16 {n : Int} (h : (Lit.int .u16 n).wf = true) : 0 ≤ n ∧ n < 65536 := by
  simp [Lit.wf, IntKind.min, IntKind.max, IntKind.signed, IntKind.bits] at h
  omega
theorem wf_i64 {n : Int} (h : (Lit.int .i64 n).wf = true) : -9223372036854775808 ≤ n ∧ n < 9223372036854775808 := by
  simp [Lit.wf, IntKind.min, IntKind.max, IntKind.signed, IntKind.bits] at h
  omega

/-- A slice of bytes. -/
theorem has_bytes {d : DV} (h : HasArg (.slice 1 (.int .u8)) d) : ∃ ns : List Nat, d = .sl 1 (byteRows ns) ∧ (∀ n ∈ ns, n < 256) ∧ ns.length ≤ maxLen := by
  obtain ⟨l, h, hm, hl⟩ := h
  cases h
  have : ∃ ns, bytesN l = some ns := by
    clear hm
    induction l with
    | nil => exact ⟨[], rfl⟩
    | cons x l ih =>
      obtain ⟨ns, hns⟩ := ih (fun e he => hl e (by simp [he]))
      obtain ⟨_, n, hx, hw⟩ := hl x (by simp)
      subst hx
      have := wf_u8 hw
      exact ⟨n.toNat :: ns, by simp only [bytesN]; rw [if_pos (by omega), hns]; rfl⟩
  obtain ⟨ns, hns⟩ := this
  obtain ⟨rfl, h2⟩ := bytesN_inv hns
  exact ⟨ns, rfl, h2, by simpa [byteRows] using hm⟩

theorem has_int {k : IntKind} {d : DV} (h : HasArg (.int k) d) : ∃ n, d = .int k n ∧ (Lit.int k n).wf = true := by
  obtain ⟨n, h, hw⟩ := h
  cases h
  exact ⟨n, rfl, hw⟩

theorem byteRows_length (ns : List Nat) : (byteRows ns).length = ns.length := by simp [byteRows]
theorem byteRows_get (ns : List Nat) (j : Nat) : (byteRows ns)[j]? = (ns[j]?).map fun n : Nat => [DV.int .u8 (n : Int)] := by simp [byteRows]

theorem fdiv_nat (n k : Nat) : Int.fdiv (n : Int) (k : Int) = ((n / k : Nat) : Int) := by
  rw [Int.fdiv_eq_ediv_of_nonneg _ (by omega)]
  norm_cast
theorem tdiv_nat (n k : Nat) : Int.tdiv (n : Int) (k : Int) = ((n / k : Nat) : Int) := by
  rw [Int.tdiv_eq_ediv_of_nonneg (by omega)]
  norm_cast
theorem tmod_nat (n k : Nat) : Int.tmod (n : Int) (k : Int) = ((n % k : Nat) : Int) := by
  rw [Int.tmod_eq_emod_of_nonneg (by omega)]
  norm_cast
theorem wrap_u32_nat (n : Nat) (h : n < 4294967296) : IntKind.u32.wrap (n : Int) = n := by
  rw [IntKind.wrap_u32']; omega
theorem wrap_i64_of {n : Int} (h0 : -9223372036854775808 ≤ n) (h1 : n < 9223372036854775808) : IntKind.i64.wrap n = n := by
  rw [IntKind.wrap_i64]; omega

end Go.AI
