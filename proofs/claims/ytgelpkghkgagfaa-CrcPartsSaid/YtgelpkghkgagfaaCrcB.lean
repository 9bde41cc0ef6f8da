/- crc: the law's functions, walked. -/
import Derived.Test.YtgelpkghkgagfaaCrcM
namespace Go.AI
set_option linter.unusedVariables false
set_option linter.unusedSimpArgs false
open Go.Proofs

def af14 : AFn := ⟨(.seq (.region [
  ⟨(some 0), (.p (.mv (.c (.bool false)))), none⟩]) (.seq (.region [
  ⟨(some 1), (.a (.bsl 1 1 [(.int .u8 0)] [(0, (.c (.int .u8 97)))])), none⟩, 
  ⟨(some 2), (.w (.s2s (.t 1))), none⟩, 
  ⟨(some 3), (.r (.call 15 [(.t 2)])), none⟩, 
  ⟨(some 4), (.a (.bsl 1 1 [(.int .u8 0)] [(0, (.c (.int .u8 98)))])), none⟩, 
  ⟨(some 5), (.w (.s2s (.t 4))), none⟩, 
  ⟨(some 6), (.r (.call 15 [(.t 5)])), none⟩, 
  ⟨(some 7), (.p (.bin .neq (.t 3) (.t 6))), none⟩, 
  ⟨(some 8), (.p (.mv (.t 7))), none⟩, 
  ⟨(some 9), (.a (.bsl 1 1 [(.int .u8 0)] [(0, (.c (.int .u8 97)))])), (some (8, true))⟩, 
  ⟨(some 10), (.w (.s2s (.t 9))), (some (8, true))⟩, 
  ⟨(some 11), (.r (.call 15 [(.t 10)])), (some (8, true))⟩, 
  ⟨(some 12), (.a (.bsl 1 1 [(.int .u8 0)] [(0, (.c (.int .u8 98)))])), (some (8, true))⟩, 
  ⟨(some 13), (.w (.s2s (.t 12))), (some (8, true))⟩, 
  ⟨(some 14), (.r (.call 17 [(.t 11), (.t 13)])), (some (8, true))⟩, 
  ⟨(some 15), (.a (.bsl 1 2 [(.int .u8 0)] [(0, (.c (.int .u8 97))), (1, (.c (.int .u8 98)))])), (some (8, true))⟩, 
  ⟨(some 16), (.w (.s2s (.t 15))), (some (8, true))⟩, 
  ⟨(some 17), (.r (.call 15 [(.t 16)])), (some (8, true))⟩, 
  ⟨(some 18), (.p (.bin .eql (.t 14) (.t 17))), (some (8, true))⟩, 
  ⟨(some 19), (.p (.pick (.t 8) (.t 18) (.c (.bool false)))), none⟩, 
  ⟨(some 20), (.p (.mv (.t 19))), none⟩, 
  ⟨(some 21), (.r (.call 15 [(.c (.nils 0))])), (some (20, true))⟩, 
  ⟨(some 22), (.p (.bin .eql (.t 21) (.c (.int .u32 0)))), (some (20, true))⟩, 
  ⟨(some 23), (.p (.pick (.t 20) (.t 22) (.c (.bool false)))), none⟩, 
  ⟨(some 0), (.p (.mv (.t 23))), none⟩]) .ret)), [(.tmp 0)], 24⟩
theorem c14 : compF Try.prog 14 = some af14 := by kernel_rfl

def af3 : AFn := ⟨(.seq (.region [
  ⟨(some 4), (.p (.mv (.c (.bool false)))), none⟩]) (.seq (.seq (.region [
  ⟨(some 6), (.r (.call 14 [])), none⟩, 
  ⟨(some 7), (.p (.un .not (.t 6))), none⟩]) (.cond (.t 7) (.seq (.region [
  ⟨(some 4), (.p (.mv (.c (.bool false)))), none⟩]) .ret) .skip)) (.seq (.seq (.region [
  ⟨(some 8), (.p (.mv (.t 1))), none⟩, 
  ⟨(some 9), (.p (.len (.t 8))), none⟩, 
  ⟨(some 10), (.p (.bin .gtr (.t 9) (.c (.int .i64 2000)))), none⟩]) (.cond (.t 10) (.seq (.region [
  ⟨(some 4), (.p (.mv (.c (.bool true)))), none⟩]) .ret) .skip)) (.seq (.region [
  ⟨(some 11), (.a (.bsl 1 0 [(.int .u8 0)] [])), none⟩, 
  ⟨(some 12), (.p (.mv (.t 1))), none⟩, 
  ⟨(some 13), (.w (.app 1 1 false (.t 11) (.t 12))), none⟩, 
  ⟨(some 5), (.p (.mv (.t 13))), none⟩]) (.seq (.region [
  ⟨(some 14), (.p (.mv (.t 5))), none⟩, 
  ⟨(some 15), (.r (.call 15 [(.t 14)])), none⟩, 
  ⟨(some 16), (.p (.mv (.t 1))), none⟩, 
  ⟨(some 17), (.r (.call 16 [(.t 16)])), none⟩, 
  ⟨(some 18), (.p (.bin .eql (.t 15) (.t 17))), none⟩, 
  ⟨(some 19), (.p (.mv (.t 18))), none⟩, 
  ⟨(some 20), (.p (.mv (.t 0))), (some (19, true))⟩, 
  ⟨(some 21), (.p (.mv (.t 5))), (some (19, true))⟩, 
  ⟨(some 22), (.r (.call 17 [(.t 20), (.t 21)])), (some (19, true))⟩, 
  ⟨(some 23), (.p (.mv (.t 0))), (some (19, true))⟩, 
  ⟨(some 24), (.p (.mv (.t 1))), (some (19, true))⟩, 
  ⟨(some 25), (.r (.call 18 [(.t 23), (.t 24)])), (some (19, true))⟩, 
  ⟨(some 26), (.p (.bin .eql (.t 22) (.t 25))), (some (19, true))⟩, 
  ⟨(some 27), (.p (.pick (.t 19) (.t 26) (.c (.bool false)))), none⟩, 
  ⟨(some 28), (.p (.mv (.t 27))), none⟩, 
  ⟨(some 29), (.p (.mv (.t 5))), (some (28, true))⟩, 
  ⟨(some 30), (.r (.b2s (.t 29))), (some (28, true))⟩, 
  ⟨(some 31), (.p (.mv (.t 1))), (some (28, true))⟩, 
  ⟨(some 32), (.r (.b2s (.t 31))), (some (28, true))⟩, 
  ⟨(some 33), (.p (.bin .eql (.t 30) (.t 32))), (some (28, true))⟩, 
  ⟨(some 34), (.p (.pick (.t 28) (.t 33) (.c (.bool false)))), none⟩, 
  ⟨(some 4), (.p (.mv (.t 34))), none⟩]) .ret))))), [(.tmp 4)], 35⟩
theorem c3 : compF Try.prog 3 = some af3 := by kernel_rfl


attribute [simp] setParts storeE appRes elems bytesD dBytes

def Sums (sp : List DV → Option DV) (f : Nat → List Nat → Nat) : Prop :=
  ∀ {s : Nat} {sz : Nat} {ns : List Nat}, s < 4294967296 → ns.length < 9223372036854775808 → (∀ n ∈ ns, n < 256) → (sz = 1 ∨ ns = []) → sp [.int .u32 (s : Int), .sl sz (byteRows ns)] = some (.int .u32 (f s ns : Nat))
def Sum0 (sp : List DV → Option DV) (f : Nat → List Nat → Nat) : Prop :=
  ∀ {sz : Nat} {ns : List Nat}, ns.length < 9223372036854775808 → (∀ n ∈ ns, n < 256) → (sz = 1 ∨ ns = []) → sp [.sl sz (byteRows ns)] = some (.int .u32 (f 0 ns : Nat))

def spec14 : List DV → Option DV
  | [] => some (.bool true)
  | _ => none

theorem v14 {C : FuncId → Con} (hC : ConOk Try.prog C) {sp15 sp17 : List DV → Option DV} (hc15 : C 15 = .val sp15) (hc17 : C 17 = .val sp17) {m : Nat → List Nat → Nat} (hm : m = moreN) (h15 : Sum0 sp15 m) (h17 : Sums sp17 m) : ValOk Try.prog 14 spec14 := by
  refine val_of hC c14 ?_
  intro ds r hr
  unfold spec14 at hr
  split at hr
  · cases hr
    have e1 : sp15 [.sl 1 [[.int .u8 97]]] = some (.int .u32 (m 0 [97] : Nat)) := h15 (ns := [97]) (by decide) (by decide) (.inl rfl)
    have e2 : sp15 [.sl 1 [[.int .u8 98]]] = some (.int .u32 (m 0 [98] : Nat)) := h15 (ns := [98]) (by decide) (by decide) (.inl rfl)
    have e3 : sp15 [.sl 1 [[.int .u8 97], [.int .u8 98]]] = some (.int .u32 (m 0 [97, 98] : Nat)) := h15 (ns := [97, 98]) (by decide) (by decide) (.inl rfl)
    have e4 : sp15 [.sl 0 []] = some (.int .u32 (m 0 [] : Nat)) := h15 (ns := []) (by decide) (by decide) (.inr rfl)
    have b1 : m 0 [97] < 4294967296 := by rw [hm]; decide +kernel
    have e5 : sp17 [.int .u32 (m 0 [97] : Nat), .sl 1 [[.int .u8 98]]] = some (.int .u32 (m (m 0 [97]) [98] : Nat)) := h17 (ns := [98]) b1 (by decide) (by decide) (.inl rfl)
    have n0 : ¬ m 0 [97] = m 0 [98] := by rw [hm]; decide +kernel
    have n1 : (((m 0 [97] : Nat) : Int) != ((m 0 [98] : Nat) : Int)) = true := by simp only [bne_iff_ne, ne_eq]; omega
    have n2 : m (m 0 [97]) [98] = m 0 [97, 98] := by rw [hm]; decide +kernel
    have n3 : m 0 [] = 0 := by rw [hm]; decide +kernel
    clear hm h15 h17 b1
    unfold af14
    refine seq_k fun K0 k0 => ?_
    simp
    refine k0 _ ?_
    clear k0 K0
    simp [e1, e2, e3, e4, e5, n1, n2, n3, hc15, hc17]
  · cases hr

theorem bytesD_rows (ns : List Nat) : ∃ l, bytesD (byteRows ns) = some l := by
  induction ns with
  | nil => exact ⟨[], rfl⟩
  | cons n ns ih =>
    obtain ⟨l, hl⟩ := ih
    exact ⟨UInt8.ofNat n :: l, by simp only [byteRows, List.map_cons] at hl ⊢; simp only [bytesD, hl]; rfl⟩

theorem walk3 {C : FuncId → Con} (hC : ConOk Try.prog C) {sp14 sp15 sp16 sp17 sp18 : List DV → Option DV} (hc14 : C 14 = .val sp14) (hc15 : C 15 = .val sp15) (hc16 : C 16 = .val sp16) (hc17 : C 17 = .val sp17) (hc18 : C 18 = .val sp18)
    {m : Nat → List Nat → Nat} (h14 : sp14 [] = some (.bool true)) (h15 : Sum0 sp15 m) (h16 : Sum0 sp16 m) (h17 : Sums sp17 m) (h18 : Sums sp18 m) : LawOk Try.prog 3 [.int .u32, .slice 1 (.int .u8)] := by
  refine law_of hC c3 ?_
  intro dvs hd
  match dvs, hd with
  | [d0, d1], ⟨hd0, hd1, _⟩ =>
  obtain ⟨z, rfl, hz⟩ := has_int hd0
  obtain ⟨ns, rfl, hb, hl⟩ := has_bytes hd1
  have hz := wf_u32 hz
  obtain ⟨s, rfl⟩ := Int.eq_ofNat_of_zero_le hz.1
  have hs : s < 4294967296 := by omega
  have hn : ns.length < 9223372036854775808 := by unfold maxLen at hl; omega
  have e15 := h15 (sz := 1) hn hb (.inl rfl)
  have e16 := h16 (sz := 1) hn hb (.inl rfl)
  have e17 := h17 (sz := 1) hs hn hb (.inl rfl)
  have e18 := h18 (sz := 1) hs hn hb (.inl rfl)
  obtain ⟨l, hbd⟩ := bytesD_rows ns
  clear h15 h16 h17 h18 hd0 hd1
  unfold af3
  refine seq_k fun K0 k0 => ?_
  simp
  refine k0 _ ?_
  clear k0 K0
  refine seq_k fun K0 k0 => ?_
  simp [hc14, h14]
  refine k0 _ ?_
  clear k0 K0
  refine seq_k fun K0 k0 => ?_
  simp [byteRows_length]
  refine fun hle => k0 _ ?_
  clear k0 K0
  refine seq_k fun K0 k0 => ?_
  have hm1 : ns.length ≤ 140737488355328 := by omega
  have hm2 : ns.length ≤ maxLen := hl
  simp [byteRows_length, hm1, hm2]
  refine k0 _ ?_
  clear k0 K0
  have ht : List.take ns.length (byteRows ns) = byteRows ns := by rw [← byteRows_length ns, List.take_length]
  simp [byteRows_length, ht, e15, e16, e17, e18, hc15, hc16, hc17, hc18, hbd]
end Go.AI
