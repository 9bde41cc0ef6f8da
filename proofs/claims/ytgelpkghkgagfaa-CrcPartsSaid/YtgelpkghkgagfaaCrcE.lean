/- crc: the law of parts, walked. -/
import Derived.Test.YtgelpkghkgagfaaCrcC
import Derived.Test.YtgelpkghkgagfaaCrcD
namespace Go.AI
set_option linter.unusedVariables false
set_option linter.unusedSimpArgs false
open Go.Proofs

def af4 : AFn := ⟨(.seq (.region [
  ⟨(some 8), (.p (.mv (.c (.bool false)))), none⟩]) (.seq (.seq (.region [
  ⟨(some 10), (.r (.call 14 [])), none⟩, 
  ⟨(some 11), (.p (.un .not (.t 10))), none⟩]) (.cond (.t 11) (.seq (.region [
  ⟨(some 8), (.p (.mv (.c (.bool false)))), none⟩]) .ret) .skip)) (.seq (.seq (.region [
  ⟨(some 12), (.p (.mv (.t 2))), none⟩, 
  ⟨(some 13), (.p (.len (.t 12))), none⟩, 
  ⟨(some 14), (.p (.bin .gtr (.t 13) (.c (.int .i64 2000)))), none⟩, 
  ⟨(some 15), (.p (.mv (.t 14))), none⟩, 
  ⟨(some 16), (.p (.mv (.t 3))), (some (15, false))⟩, 
  ⟨(some 17), (.p (.len (.t 16))), (some (15, false))⟩, 
  ⟨(some 18), (.p (.bin .gtr (.t 17) (.c (.int .i64 2000)))), (some (15, false))⟩, 
  ⟨(some 19), (.p (.pick (.t 15) (.c (.bool true)) (.t 18))), none⟩]) (.cond (.t 19) (.seq (.region [
  ⟨(some 8), (.p (.mv (.c (.bool true)))), none⟩]) .ret) .skip)) (.seq (.region [
  ⟨(some 20), (.a (.bsl 1 0 [(.int .u8 0)] [])), none⟩, 
  ⟨(some 21), (.p (.mv (.t 2))), none⟩, 
  ⟨(some 22), (.w (.app 1 1 false (.t 20) (.t 21))), none⟩, 
  ⟨(some 23), (.p (.mv (.t 3))), none⟩, 
  ⟨(some 24), (.w (.app 1 1 false (.t 22) (.t 23))), none⟩, 
  ⟨(some 9), (.p (.mv (.t 24))), none⟩]) (.seq (.region [
  ⟨(some 25), (.p (.mv (.t 9))), none⟩, 
  ⟨(some 26), (.r (.call 15 [(.t 25)])), none⟩, 
  ⟨(some 27), (.p (.mv (.t 2))), none⟩, 
  ⟨(some 28), (.r (.call 15 [(.t 27)])), none⟩, 
  ⟨(some 29), (.p (.mv (.t 3))), none⟩, 
  ⟨(some 30), (.r (.call 17 [(.t 28), (.t 29)])), none⟩, 
  ⟨(some 31), (.p (.bin .eql (.t 26) (.t 30))), none⟩, 
  ⟨(some 32), (.p (.mv (.t 31))), none⟩, 
  ⟨(some 33), (.p (.mv (.t 0))), (some (32, true))⟩, 
  ⟨(some 34), (.p (.mv (.t 9))), (some (32, true))⟩, 
  ⟨(some 35), (.r (.call 17 [(.t 33), (.t 34)])), (some (32, true))⟩, 
  ⟨(some 36), (.p (.mv (.t 0))), (some (32, true))⟩, 
  ⟨(some 37), (.p (.mv (.t 2))), (some (32, true))⟩, 
  ⟨(some 38), (.r (.call 17 [(.t 36), (.t 37)])), (some (32, true))⟩, 
  ⟨(some 39), (.p (.mv (.t 3))), (some (32, true))⟩, 
  ⟨(some 40), (.r (.call 17 [(.t 38), (.t 39)])), (some (32, true))⟩, 
  ⟨(some 41), (.p (.bin .eql (.t 35) (.t 40))), (some (32, true))⟩, 
  ⟨(some 42), (.p (.pick (.t 32) (.t 41) (.c (.bool false)))), none⟩, 
  ⟨(some 43), (.p (.mv (.t 42))), none⟩, 
  ⟨(some 44), (.p (.mv (.t 0))), (some (43, true))⟩, 
  ⟨(some 45), (.r (.call 17 [(.t 44), (.c (.nils 0))])), (some (43, true))⟩, 
  ⟨(some 46), (.p (.mv (.t 0))), (some (43, true))⟩, 
  ⟨(some 47), (.p (.bin .eql (.t 45) (.t 46))), (some (43, true))⟩, 
  ⟨(some 48), (.p (.pick (.t 43) (.t 47) (.c (.bool false)))), none⟩, 
  ⟨(some 49), (.p (.mv (.t 48))), none⟩, 
  ⟨(some 50), (.p (.mv (.t 0))), (some (49, true))⟩, 
  ⟨(some 51), (.p (.mv (.t 2))), (some (49, true))⟩, 
  ⟨(some 52), (.r (.call 17 [(.t 50), (.t 51)])), (some (49, true))⟩, 
  ⟨(some 53), (.p (.mv (.t 1))), (some (49, true))⟩, 
  ⟨(some 54), (.p (.mv (.t 2))), (some (49, true))⟩, 
  ⟨(some 55), (.r (.call 17 [(.t 53), (.t 54)])), (some (49, true))⟩, 
  ⟨(some 56), (.p (.bin .eql (.t 52) (.t 55))), (some (49, true))⟩, 
  ⟨(some 57), (.p (.mv (.t 0))), (some (49, true))⟩, 
  ⟨(some 58), (.p (.mv (.t 1))), (some (49, true))⟩, 
  ⟨(some 59), (.p (.bin .eql (.t 57) (.t 58))), (some (49, true))⟩, 
  ⟨(some 60), (.p (.eqb false (.t 56) (.t 59))), (some (49, true))⟩, 
  ⟨(some 61), (.p (.pick (.t 49) (.t 60) (.c (.bool false)))), none⟩, 
  ⟨(some 8), (.p (.mv (.t 61))), none⟩]) .ret))))), [(.tmp 8)], 62⟩
theorem c4 : compF Try.prog 4 = some af4 := by kernel_rfl


theorem byteRows_append (a b : List Nat) : byteRows a ++ byteRows b = byteRows (a ++ b) := by simp [byteRows]

theorem walk4 {C : FuncId → Con} (hC : ConOk Try.prog C) {sp14 sp15 sp17 : List DV → Option DV} (hc14 : C 14 = .val sp14) (hc15 : C 15 = .val sp15) (hc17 : C 17 = .val sp17)
    {m : Nat → List Nat → Nat} (h14 : sp14 [] = some (.bool true)) (h15 : Sum0 sp15 m) (h17 : Sums sp17 m) (mlt : ∀ {s : Nat} {ns : List Nat}, s < 4294967296 → (∀ n ∈ ns, n < 256) → m s ns < 4294967296) (mapp : ∀ s a b, m s (a ++ b) = m (m s a) b) (mnil : ∀ s, m s [] = s)
    (minj : ∀ {s t : Nat} {ns : List Nat}, s < 4294967296 → t < 4294967296 → (∀ n ∈ ns, n < 256) → m s ns = m t ns → s = t) : LawOk Try.prog 4 [.int .u32, .int .u32, .slice 1 (.int .u8), .slice 1 (.int .u8)] := by
  refine law_of hC c4 ?_
  intro dvs hd
  match dvs, hd with
  | [d0, d1, d2, d3], ⟨hd0, hd1, hd2, hd3, _⟩ =>
  obtain ⟨z, rfl, hz⟩ := has_int hd0
  obtain ⟨y, rfl, hy⟩ := has_int hd1
  obtain ⟨xs, rfl, ha, hla⟩ := has_bytes hd2
  obtain ⟨bs, rfl, hb, hlb⟩ := has_bytes hd3
  have hz := wf_u32 hz
  have hy := wf_u32 hy
  obtain ⟨s, rfl⟩ := Int.eq_ofNat_of_zero_le hz.1
  obtain ⟨t, rfl⟩ := Int.eq_ofNat_of_zero_le hy.1
  have hs : s < 4294967296 := by omega
  have ht : t < 4294967296 := by omega
  unfold af4
  refine seq_k fun K0 k0 => ?_
  simp
  refine k0 _ ?_
  clear k0 K0
  refine seq_k fun K0 k0 => ?_
  simp [hc14, h14]
  refine k0 _ ?_
  clear k0 K0
  refine seq_k fun K0 k0 => ?_
  by_cases h1 : (2000 : Int) < xs.length
  · simp [byteRows_length, h1]
  by_cases h2 : (2000 : Int) < bs.length
  · simp [byteRows_length, h1, h2]
  simp [byteRows_length, h1, h2]
  refine k0 _ ?_
  clear k0 K0
  have hn : (xs ++ bs).length < 9223372036854775808 := by rw [List.length_append]; omega
  have hab : ∀ n ∈ xs ++ bs, n < 256 := fun n hn => (List.mem_append.1 hn).elim (ha n) (hb n)
  have e1 := h15 (sz := 1) hn hab (.inl rfl)
  have e2 := h15 (sz := 1) (ns := xs) (by omega) ha (.inl rfl)
  have e3 := h17 (sz := 1) (ns := bs) (mlt (s := 0) (by omega) ha) (by omega) hb (.inl rfl)
  have e4 := h17 (sz := 1) hs hn hab (.inl rfl)
  have e5 := h17 (sz := 1) (ns := xs) hs (by omega) ha (.inl rfl)
  have e6 := h17 (sz := 1) (ns := bs) (mlt hs ha) (by omega) hb (.inl rfl)
  have e7 : sp17 [.int .u32 (s : Int), .sl 0 []] = some (.int .u32 (m s [] : Nat)) := h17 (sz := 0) (ns := []) hs (by decide) (by simp) (.inr rfl)
  have e8 := h17 (sz := 1) (ns := xs) ht (by omega) ha (.inl rfl)
  have hiff : (((m s xs : Nat) : Int) == ((m t xs : Nat) : Int)) = ((s : Int) == (t : Int)) := by
    by_cases e : s = t
    · subst e; simp
    · have h3 : ¬ m s xs = m t xs := fun h => e (minj hs ht ha h)
      have h4 : ¬ ((m s xs : Nat) : Int) = ((m t xs : Nat) : Int) := by omega
      have h5 : ¬ (s : Int) = (t : Int) := by omega
      rw [beq_eq_false_iff_ne.2 h4, beq_eq_false_iff_ne.2 h5]
  have hm1 : xs.length ≤ 140737488355328 := by omega
  have hm3 : xs.length + bs.length ≤ 140737488355328 := by omega
  have hm4 : xs.length + bs.length ≤ maxLen := by unfold maxLen; omega
  have htx : List.take xs.length (byteRows xs) = byteRows xs := by rw [← byteRows_length xs, List.take_length]
  have htk : List.take (xs.length + bs.length) (byteRows xs ++ byteRows bs) = byteRows (xs ++ bs) := by
    rw [byteRows_append, ← List.length_append, ← byteRows_length (xs ++ bs), List.take_length]
  rw [mapp] at e1 e4
  rw [mnil] at e7
  clear h15 h17 mlt mapp mnil minj hd0 hd1 hd2 hd3
  refine seq_k fun K0 k0 => ?_
  simp [byteRows_length, hm1, hm3, hm4, hla, htx]
  refine k0 _ ?_
  clear k0 K0
  simp [byteRows_length, htk, e1, e2, e3, e4, e5, e6, e7, e8, hc15, hc17, hiff]

theorem law4 : LawOk Try.prog 4 [.int .u32, .int .u32, .slice 1 (.int .u8), .slice 1 (.int .u8)] :=
  walk4 K14_ok (sp14 := spec14) (sp15 := spec15) (sp17 := spec17) rfl rfl rfl rfl (spec15_at fun _ _ => rfl) sums17 more_lt more_append more_nil more_inj
end Go.AI
