/- What a law is handed, as data with a kind. -/
import Derived.Test.YtpolaeonmmolnaaALh
namespace Go.AI
set_option linter.unusedVariables false
set_option linter.unusedSimpArgs false

def R_i64 (n : Int) : Prop := -9223372036854775808 ≤ n ∧ n < 9223372036854775808
def R_i32 (n : Int) : Prop := -2147483648 ≤ n ∧ n < 2147483648
def R_u8 (n : Int) : Prop := 0 ≤ n ∧ n < 256
def R_u16 (n : Int) : Prop := 0 ≤ n ∧ n < 65536
def R_u32 (n : Int) : Prop := 0 ≤ n ∧ n < 4294967296
def R_u64 (n : Int) : Prop := 0 ≤ n ∧ n < 18446744073709551616
def R_bool (_ : Bool) : Prop := True
def R_str (s : ByteArray) : Prop := s.size ≤ maxLen
def R_sl {α : Type} (R : α → Prop) (l : List α) : Prop := l.length ≤ maxLen ∧ ∀ x ∈ l, R x

theorem has_i64 {ds : List DV} (h : HasSh (.int .i64) ds) : ∃ x, ds = e_i64 x ∧ R_i64 x := by obtain ⟨n, rfl, h⟩ := h; exact ⟨n, rfl, wf_i64 h⟩
theorem has_u8 {ds : List DV} (h : HasSh (.int .u8) ds) : ∃ x, ds = e_u8 x ∧ R_u8 x := by obtain ⟨n, rfl, h⟩ := h; exact ⟨n, rfl, wf_u8 h⟩
theorem has_u16 {ds : List DV} (h : HasSh (.int .u16) ds) : ∃ x, ds = e_u16 x ∧ R_u16 x := by obtain ⟨n, rfl, h⟩ := h; exact ⟨n, rfl, wf_u16 h⟩
theorem has_u32 {ds : List DV} (h : HasSh (.int .u32) ds) : ∃ x, ds = e_u32 x ∧ R_u32 x := by obtain ⟨n, rfl, h⟩ := h; exact ⟨n, rfl, wf_u32 h⟩
theorem has_u64 {ds : List DV} (h : HasSh (.int .u64) ds) : ∃ x, ds = e_u64 x ∧ R_u64 x := by
  obtain ⟨n, rfl, h⟩ := h
  refine ⟨n, rfl, ?_⟩
  simp [Lit.wf, IntKind.min, IntKind.max, IntKind.signed, IntKind.bits] at h
  unfold R_u64
  omega
theorem has_bool {ds : List DV} (h : HasSh .bool ds) : ∃ x, ds = e_bool x ∧ R_bool x := by obtain ⟨n, rfl⟩ := h; exact ⟨n, rfl, trivial⟩
theorem has_str {ds : List DV} (h : HasSh .str ds) : ∃ x, ds = e_str x ∧ R_str x := by obtain ⟨n, rfl, h⟩ := h; exact ⟨n, rfl, h⟩
theorem has_list {α : Type} {e : α → List DV} {R : α → Prop} {s : Sh} {n : Nat} (hs : ∀ {ds}, HasSh s ds → ∃ x, ds = e x ∧ R x) : ∀ {l : List (List DV)}, (∀ x ∈ l, x.length = n ∧ HasSh s x) → ∃ xs : List α, l = xs.map e ∧ ∀ x ∈ xs, R x
  | [], _ => ⟨[], rfl, by simp⟩
  | y :: l, h => by
    obtain ⟨x, hx, hr⟩ := hs (h y (by simp)).2
    obtain ⟨xs, hxs, hrs⟩ := has_list (n := n) hs (l := l) (fun z hz => h z (by simp [hz]))
    refine ⟨x :: xs, by rw [hx, hxs]; rfl, ?_⟩
    intro z hz
    rcases List.mem_cons.1 hz with rfl | hz
    · exact hr
    · exact hrs z hz
theorem has_sl {α : Type} {e : α → List DV} {R : α → Prop} {s : Sh} {n : Nat} (hs : ∀ {ds}, HasSh s ds → ∃ x, ds = e x ∧ R x) {ds : List DV} (h : HasSh (.slice n s) ds) : ∃ x, ds = e_sl n e x ∧ R_sl R x := by
  obtain ⟨l, rfl, hl, h⟩ := h
  obtain ⟨xs, rfl, hr⟩ := has_list (n := n) hs h
  exact ⟨xs, rfl, by simpa using hl, hr⟩

/-- One argument that fills one cell. -/
theorem arg1 {α : Type} {e : α → List DV} {R : α → Prop} {s : Sh} (hs : ∀ {ds}, HasSh s ds → ∃ x, ds = e x ∧ R x) {d : DV} (h : HasSh s [d]) : ∃ x, [d] = e x ∧ R x := hs h
end Go.AI
