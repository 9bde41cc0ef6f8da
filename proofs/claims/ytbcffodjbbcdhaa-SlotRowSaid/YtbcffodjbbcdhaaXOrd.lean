/- The order of strings, by their bytes. -/
import Derived.Test.YtbcffodjbbcdhaaXLoop
import Derived.Test.YtbcffodjbbcdhaaLF
import Derived.Lib.Bytealg
import Derived.Lib.Strings
namespace Go.AI
open IntKind

theorem u8_tri (a b : UInt8) : a = b ∨ a < b ∨ b < a := by
  rcases Nat.lt_trichotomy a.toNat b.toNat with h | h | h
  · exact .inr (.inl h)
  · exact .inl (UInt8.toNat_inj.1 h)
  · exact .inr (.inr h)
theorem blt_irrefl : ∀ x : List UInt8, Go.Op.bytesLess x x = false
  | [] => rfl
  | a :: x => by simp [Go.Op.bytesLess, blt_irrefl x]
theorem blt_nil : ∀ x : List UInt8, Go.Op.bytesLess x [] = false
  | [] => rfl
  | a :: x => rfl
theorem blt_trans : ∀ {x y z : List UInt8}, Go.Op.bytesLess x y = true → Go.Op.bytesLess y z = true → Go.Op.bytesLess x z = true
  | x, [], z, h, _ => by rw [blt_nil] at h; cases h
  | x, _ :: _, [], _, h => by rw [blt_nil] at h; cases h
  | [], _ :: _, _ :: _, _, _ => rfl
  | a :: x, b :: y, c :: z, h, h' => by
    simp only [Go.Op.bytesLess, Bool.or_eq_true, Bool.and_eq_true, decide_eq_true_eq, beq_iff_eq] at h h' ⊢
    rcases h with h | ⟨rfl, h⟩
    · rcases h' with h' | ⟨rfl, h'⟩
      · exact .inl (UInt8.lt_trans h h')
      · exact .inl h
    · rcases h' with h' | ⟨rfl, h'⟩
      · exact .inl h'
      · exact .inr ⟨rfl, blt_trans h h'⟩
theorem blt_tri : ∀ {x y : List UInt8}, Go.Op.bytesLess x y = false → Go.Op.bytesLess y x = false → x = y
  | [], [], _, _ => rfl
  | [], _ :: _, h, _ => by cases h
  | _ :: _, [], _, h => by cases h
  | a :: x, b :: y, h, h' => by
    simp only [Go.Op.bytesLess, Bool.or_eq_false_iff, Bool.and_eq_false_iff, decide_eq_false_iff_not] at h h'
    have e : a = b := by
      rcases u8_tri a b with h1 | h1 | h1
      · exact h1
      · exact absurd h1 h.1
      · exact absurd h1 h'.1
    subst e
    rw [blt_tri (h.2.resolve_left (by simp)) (h'.2.resolve_left (by simp))]

/-- One string ahead of another one. -/
def ltS (a b : ByteArray) : Bool := Go.Op.bytesLess (ByteArray.toList a) (ByteArray.toList b)
theorem ltS_irrefl (a : ByteArray) : ltS a a = false := blt_irrefl _
theorem ltS_trans {a b c : ByteArray} (h : ltS a b = true) (h' : ltS b c = true) : ltS a c = true := blt_trans h h'
theorem toList_inj {a b : ByteArray} (h : ByteArray.toList a = ByteArray.toList b) : a = b := by
  rw [Lib.toList_data, Lib.toList_data] at h
  cases a; cases b
  rename_i x y
  congr 1
  exact Array.toList_inj.1 h
theorem ltS_tri {a b : ByteArray} (h : ltS a b = false) (h' : ltS b a = false) : a = b := toList_inj (blt_tri h h')
theorem ltS_ne {a b : ByteArray} (h : ltS a b = true) : a ≠ b := fun e => by subst e; rw [ltS_irrefl] at h; cases h
theorem ltS_asymm {a b : ByteArray} (h : ltS a b = true) : ltS b a = false := by
  cases h' : ltS b a with
  | false => rfl
  | true => have := ltS_trans h h'; rw [ltS_irrefl] at this; cases this

theorem cmpB_eq : ∀ x y : List UInt8, Lib.compareBytes x y = if Go.Op.bytesLess x y = true then -1 else if x = y then 0 else 1
  | [], [] => by simp [Lib.compareBytes, Go.Op.bytesLess]
  | [], _ :: _ => by simp [Lib.compareBytes, Go.Op.bytesLess]
  | _ :: _, [] => by simp [Lib.compareBytes, Go.Op.bytesLess]
  | a :: x, b :: y => by
    simp only [Lib.compareBytes, Go.Op.bytesLess, cmpB_eq x y]
    by_cases h1 : a < b
    · simp [h1]
    · by_cases h2 : b < a
      · have : a ≠ b := fun e => by subst e; exact h1 h2
        simp [h1, h2, this]
      · have e : a = b := by
          rcases u8_tri a b with h3 | h3 | h3
          · exact h3
          · exact absurd h3 h1
          · exact absurd h3 h2
        subst e
        simp
theorem cmpX_eq (a b : ByteArray) : cmpX a b = if ltS a b = true then -1 else if a = b then 0 else 1 := by
  unfold cmpX ltS
  rw [Lib.cmp_eq, cmpB_eq, Lib.toList_data, Lib.toList_data]
  have : (a.data.toList = b.data.toList) ↔ a = b := ⟨fun h => toList_inj (by rw [Lib.toList_data, Lib.toList_data]; exact h), fun h => by rw [h]⟩
  simp only [this]
end Go.AI
