/- crc: its functions and those of its reference, walked. -/
import Derived.Test.YtgelpkghkgagfaaAJc
import Derived.Test.YtgelpkghkgagfaaProg
namespace Go.AI
set_option linter.unusedVariables false
set_option linter.unusedSimpArgs false
open Go.Proofs

def af43l0 : ACode := (.seq (.region [
  ⟨(some 5), (.p (.bin .lss (.t 4) (.c (.int .i64 4)))), none⟩]) (.seq (.cond (.t 5) .skip (.exit 0)) (.seq (.block 1 (.seq (.region [
  ⟨(some 6), (.p (.mv (.t 0))), none⟩, 
  ⟨(some 7), (.p (.bin .and (.t 6) (.c (.int .u32 1)))), none⟩, 
  ⟨(some 3), (.p (.mv (.t 7))), none⟩]) (.seq (.region [
  ⟨(some 8), (.p (.mv (.t 0))), none⟩, 
  ⟨(some 9), (.p (.bin .shr (.t 8) (.c (.int .u64 1)))), none⟩, 
  ⟨(some 0), (.p (.mv (.t 9))), none⟩]) (.seq (.region [
  ⟨(some 10), (.p (.mv (.t 3))), none⟩, 
  ⟨(some 11), (.p (.bin .eql (.t 10) (.c (.int .u32 1)))), none⟩]) (.cond (.t 11) (.region [
  ⟨(some 12), (.p (.mv (.t 0))), none⟩, 
  ⟨(some 13), (.p (.bin .xor (.t 12) (.c (.int .u32 3988292384)))), none⟩, 
  ⟨(some 0), (.p (.mv (.t 13))), none⟩]) .skip))))) (.region [
  ⟨(some 14), (.p (.bin .add (.t 4) (.c (.int .i64 1)))), none⟩, 
  ⟨(some 4), (.p (.mv (.t 14))), none⟩]))))
def af43 : AFn := ⟨(.seq (.region [
  ⟨(some 2), (.p (.mv (.c (.int .u32 0)))), none⟩]) (.seq (.seq (.region [
  ⟨(some 4), (.p (.mv (.c (.int .i64 0)))), none⟩]) (.block 0 (.loop af43l0))) (.seq (.region [
  ⟨(some 15), (.p (.mv (.t 0))), none⟩, 
  ⟨(some 2), (.p (.mv (.t 15))), none⟩]) .ret))), [(.tmp 2)], 16⟩
theorem c43 : compF Try.prog 43 = some af43 := by kernel_rfl

def af17l0 : ACode := (.seq (.region [
  ⟨(some 13), (.p (.bin .lss (.t 12) (.t 11))), none⟩]) (.seq (.cond (.t 13) .skip (.exit 0)) (.seq (.block 1 (.seq (.region [
  ⟨(some 14), (.p (.soff 1 (.t 10) (.t 12))), none⟩, 
  ⟨(some 15), (.r (.load 1 false (.t 14))), none⟩, 
  ⟨(some 7), (.p (.mv (.t 15))), none⟩]) (.seq (.region [
  ⟨(some 16), (.p (.mv (.t 5))), none⟩, 
  ⟨(some 17), (.p (.mv (.t 7))), none⟩, 
  ⟨(some 18), (.p (.conv .u32 (.t 17))), none⟩, 
  ⟨(some 19), (.p (.bin .xor (.t 16) (.t 18))), none⟩, 
  ⟨(some 5), (.p (.mv (.t 19))), none⟩]) (.seq (.region [
  ⟨(some 20), (.p (.mv (.t 5))), none⟩, 
  ⟨(some 21), (.p (.bin .and (.t 20) (.c (.int .u32 15)))), none⟩, 
  ⟨(some 22), (.r (.call 43 [(.t 21)])), none⟩, 
  ⟨(some 23), (.p (.mv (.t 5))), none⟩, 
  ⟨(some 24), (.p (.bin .shr (.t 23) (.c (.int .u64 4)))), none⟩, 
  ⟨(some 25), (.p (.bin .xor (.t 22) (.t 24))), none⟩, 
  ⟨(some 5), (.p (.mv (.t 25))), none⟩]) (.region [
  ⟨(some 26), (.p (.mv (.t 5))), none⟩, 
  ⟨(some 27), (.p (.bin .and (.t 26) (.c (.int .u32 15)))), none⟩, 
  ⟨(some 28), (.r (.call 43 [(.t 27)])), none⟩, 
  ⟨(some 29), (.p (.mv (.t 5))), none⟩, 
  ⟨(some 30), (.p (.bin .shr (.t 29) (.c (.int .u64 4)))), none⟩, 
  ⟨(some 31), (.p (.bin .xor (.t 28) (.t 30))), none⟩, 
  ⟨(some 5), (.p (.mv (.t 31))), none⟩]))))) (.region [
  ⟨(some 32), (.p (.bin .add (.t 12) (.c (.int .i64 1)))), none⟩, 
  ⟨(some 12), (.p (.mv (.t 32))), none⟩]))))
def af17 : AFn := ⟨(.seq (.region [
  ⟨(some 4), (.p (.mv (.c (.int .u32 0)))), none⟩]) (.seq (.region [
  ⟨(some 8), (.p (.mv (.t 0))), none⟩, 
  ⟨(some 9), (.p (.un .xor (.t 8))), none⟩, 
  ⟨(some 5), (.p (.mv (.t 9))), none⟩]) (.seq (.seq (.region [
  ⟨(some 10), (.p (.mv (.t 1))), none⟩, 
  ⟨(some 11), (.p (.len (.t 10))), none⟩, 
  ⟨(some 12), (.p (.mv (.c (.int .i64 0)))), none⟩]) (.block 0 (.loop af17l0))) (.seq (.region [
  ⟨(some 33), (.p (.mv (.t 5))), none⟩, 
  ⟨(some 34), (.p (.un .xor (.t 33))), none⟩, 
  ⟨(some 4), (.p (.mv (.t 34))), none⟩]) .ret)))), [(.tmp 4)], 35⟩
theorem c17 : compF Try.prog 17 = some af17 := by kernel_rfl

def af15 : AFn := ⟨(.seq (.region [
  ⟨(some 2), (.p (.mv (.c (.int .u32 0)))), none⟩]) (.seq (.region [
  ⟨(some 3), (.p (.mv (.t 0))), none⟩, 
  ⟨(some 4), (.r (.call 17 [(.c (.int .u32 0)), (.t 3)])), none⟩, 
  ⟨(some 2), (.p (.mv (.t 4))), none⟩]) .ret)), [(.tmp 2)], 5⟩
theorem c15 : compF Try.prog 15 = some af15 := by kernel_rfl

def af18l0 : ACode := (.seq (.seq (.region [
  ⟨(some 23), (.p (.mv (.t 7))), none⟩, 
  ⟨(some 24), (.p (.bin .lss (.t 23) (.c (.int .i64 8)))), none⟩]) (.cond (.t 24) .skip (.exit 2))) (.seq (.block 3 (.seq (.region [
  ⟨(some 27), (.p (.mv (.t 5))), none⟩, 
  ⟨(some 28), (.p (.bin .rem (.t 27) (.c (.int .u32 2)))), none⟩, 
  ⟨(some 29), (.p (.bin .eql (.t 28) (.c (.int .u32 1)))), none⟩]) (.cond (.t 29) (.region [
  ⟨(some 30), (.p (.mv (.t 5))), none⟩, 
  ⟨(some 31), (.p (.bin .quo (.t 30) (.c (.int .u32 2)))), none⟩, 
  ⟨(some 32), (.p (.bin .xor (.t 31) (.c (.int .u32 3988292384)))), none⟩, 
  ⟨(some 5), (.p (.mv (.t 32))), none⟩]) (.region [
  ⟨(some 33), (.p (.mv (.t 5))), none⟩, 
  ⟨(some 34), (.p (.bin .quo (.t 33) (.c (.int .u32 2)))), none⟩, 
  ⟨(some 5), (.p (.mv (.t 34))), none⟩])))) (.region [
  ⟨(some 25), (.p (.mv (.t 7))), none⟩, 
  ⟨(some 26), (.p (.bin .add (.t 25) (.c (.int .i64 1)))), none⟩, 
  ⟨(some 7), (.p (.mv (.t 26))), none⟩])))
def af18l1 : ACode := (.seq (.seq (.region [
  ⟨(some 10), (.p (.mv (.t 6))), none⟩, 
  ⟨(some 11), (.p (.mv (.t 1))), none⟩, 
  ⟨(some 12), (.p (.len (.t 11))), none⟩, 
  ⟨(some 13), (.p (.bin .lss (.t 10) (.t 12))), none⟩]) (.cond (.t 13) .skip (.exit 0))) (.seq (.block 1 (.seq (.region [
  ⟨(some 16), (.p (.mv (.t 5))), none⟩, 
  ⟨(some 17), (.p (.mv (.t 1))), none⟩, 
  ⟨(some 18), (.p (.mv (.t 6))), none⟩, 
  ⟨(some 19), (.p (.soff 1 (.t 17) (.t 18))), none⟩, 
  ⟨(some 20), (.r (.load 1 false (.t 19))), none⟩, 
  ⟨(some 21), (.p (.conv .u32 (.t 20))), none⟩, 
  ⟨(some 22), (.p (.bin .xor (.t 16) (.t 21))), none⟩, 
  ⟨(some 5), (.p (.mv (.t 22))), none⟩]) (.seq (.region [
  ⟨(some 7), (.p (.mv (.c (.int .i64 0)))), none⟩]) (.block 2 (.loop af18l0))))) (.region [
  ⟨(some 14), (.p (.mv (.t 6))), none⟩, 
  ⟨(some 15), (.p (.bin .add (.t 14) (.c (.int .i64 1)))), none⟩, 
  ⟨(some 6), (.p (.mv (.t 15))), none⟩])))
def af18 : AFn := ⟨(.seq (.region [
  ⟨(some 4), (.p (.mv (.c (.int .u32 0)))), none⟩]) (.seq (.region [
  ⟨(some 8), (.p (.mv (.t 0))), none⟩, 
  ⟨(some 9), (.p (.bin .xor (.t 8) (.c (.int .u32 4294967295)))), none⟩, 
  ⟨(some 5), (.p (.mv (.t 9))), none⟩]) (.seq (.seq (.region [
  ⟨(some 6), (.p (.mv (.c (.int .i64 0)))), none⟩]) (.block 0 (.loop af18l1))) (.seq (.region [
  ⟨(some 35), (.p (.mv (.t 5))), none⟩, 
  ⟨(some 36), (.p (.bin .xor (.t 35) (.c (.int .u32 4294967295)))), none⟩, 
  ⟨(some 4), (.p (.mv (.t 36))), none⟩]) .ret)))), [(.tmp 4)], 37⟩
theorem c18 : compF Try.prog 18 = some af18 := by kernel_rfl

def af16 : AFn := ⟨(.seq (.region [
  ⟨(some 2), (.p (.mv (.c (.int .u32 0)))), none⟩]) (.seq (.region [
  ⟨(some 3), (.p (.mv (.t 0))), none⟩, 
  ⟨(some 4), (.r (.call 18 [(.c (.int .u32 0)), (.t 3)])), none⟩, 
  ⟨(some 2), (.p (.mv (.t 4))), none⟩]) .ret)), [(.tmp 2)], 5⟩
theorem c16 : compF Try.prog 16 = some af16 := by kernel_rfl


def half (n : Nat) : Nat := if n % 2 = 1 then n / 2 ^^^ 3988292384 else n / 2
def halves : Nat → Nat → Nat
  | 0, n => n
  | k + 1, n => halves k (half n)

theorem half_lt {n : Nat} (h : n < 4294967296) : half n < 4294967296 := by
  unfold half
  split
  · exact Nat.xor_lt_two_pow (n := 32) (by omega) (by omega)
  · omega
theorem halves_lt : ∀ (k : Nat) {n : Nat}, n < 4294967296 → halves k n < 4294967296
  | 0, _, h => h
  | k + 1, _, h => halves_lt k (half_lt h)

theorem xor_lt {a b : Nat} (ha : a < 4294967296) (hb : b < 4294967296) : a ^^^ b < 4294967296 := Nat.xor_lt_two_pow (n := 32) (by omega) (by omega)

theorem u32_and1 (n : Nat) (h : n < 4294967296) : bits .and .u32 n 1 = ((n % 2 : Nat) : Int) := by
  have := u32_and_nat n 1 h (by omega)
  rw [Nat.and_one_is_mod] at this
  exact this
theorem u32_and15 (n : Nat) (h : n < 4294967296) : bits .and .u32 n 15 = ((n % 16 : Nat) : Int) := by
  have := u32_and_nat n 15 h (by omega)
  rw [show (15 : Nat) = 2 ^ 4 - 1 by rfl, Nat.and_two_pow_sub_one_eq_mod] at this
  exact this
theorem u32_xorR (n : Nat) (h : n < 4294967296) : bits .xor .u32 n 3988292384 = ((n ^^^ 3988292384 : Nat) : Int) := u32_xor_nat n 3988292384 h (by omega)
theorem u32_xorF (n : Nat) (h : n < 4294967296) : bits .xor .u32 n 4294967295 = ((n ^^^ 4294967295 : Nat) : Int) := u32_xor_nat n 4294967295 h (by omega)
theorem u32_notF (n : Nat) (h : n < 4294967296) : bits .xor .u32 4294967295 n = ((4294967295 ^^^ n : Nat) : Int) := u32_xor_nat 4294967295 n (by omega) h

def spec43 : List DV → Option DV
  | [.int .u32 n] => if 0 ≤ n ∧ n < 4294967296 then some (.int .u32 (halves 4 n.toNat)) else none
  | _ => none

theorem spec43_at {n : Nat} (h : n < 4294967296) : spec43 [.int .u32 (n : Int)] = some (.int .u32 (halves 4 n : Nat)) := by
  simp only [spec43]
  rw [if_pos (by omega)]
  rfl

theorem v43 {C : FuncId → Con} (hC : ConOk Try.prog C) : ValOk Try.prog 43 spec43 := by
  refine val_of hC c43 ?_
  intro ds r hr
  unfold spec43 at hr
  split at hr
  · rename_i z
    split at hr
    · rename_i hz
      cases hr
      obtain ⟨n, rfl⟩ := Int.eq_ofNat_of_zero_le hz.1
      have hn : n < 4294967296 := by omega
      rw [Int.toNat_natCast]
      simp [af43]
      refine loop_inv (fun k s => ∃ m j : Nat, j ≤ 4 ∧ k = 4 - j ∧ m < 4294967296 ∧ halves k m = halves 4 n ∧ s = ⟨⟨16, [(0, .val (.int .u32 m)), (2, .val (.int .u32 0)), (4, .val (.int .i64 j))]⟩, fun _ => none⟩) ⟨4, _, Sub.forget ?_, n, 0, by omega, rfl, hn, rfl, rfl⟩ ?_
      · simp
      rintro k s ⟨m, j, hj, rfl, hm, hh, rfl⟩
      have h1 := u32_and1 m hm
      have h2 : (m : Int).fdiv 2 = ((m / 2 : Nat) : Int) := fdiv_nat m 2
      have h3 := u32_xorR (m / 2) (by omega)
      have h4 : IntKind.i64.wrap ((j : Int) + 1) = ((j + 1 : Nat) : Int) := by rw [wrap_i64_of] <;> omega
      simp [af43l0, IntKind.bits, h1, h2, -Int.natCast_ediv, -Int.natCast_emod, h3, h4]
      refine ⟨fun hlt => ⟨fun hb => ?_, fun hb => ?_⟩, fun hlt => ?_⟩
      · refine ⟨4 - (j + 1), by omega, _, Sub.forget ?_, m / 2 ^^^ 3988292384, j + 1, by omega, rfl, xor_lt (by omega) (by omega), ?_, rfl⟩
        · simp
        · rw [← hh, show 4 - j = (4 - (j + 1)) + 1 by omega, halves, half, if_pos (by omega)]
      · refine ⟨4 - (j + 1), by omega, _, Sub.forget ?_, m / 2, j + 1, by omega, rfl, by omega, ?_, rfl⟩
        · simp
        · rw [← hh, show 4 - j = (4 - (j + 1)) + 1 by omega, halves, half, if_neg (by omega)]
      · have : j = 4 := by omega
        subst this
        rw [← hh]
        rfl
    · cases hr
  · cases hr

def byteStep (n c : Nat) : Nat :=
  let a := n ^^^ c
  let b := halves 4 (a % 16) ^^^ a / 16
  halves 4 (b % 16) ^^^ b / 16
theorem byteStep_lt {n c : Nat} (h : n < 4294967296) (hc : c < 256) : byteStep n c < 4294967296 := by
  have h1 : n ^^^ c < 4294967296 := xor_lt h (by omega)
  have h2 : halves 4 ((n ^^^ c) % 16) ^^^ (n ^^^ c) / 16 < 4294967296 := xor_lt (halves_lt 4 (by omega)) (by omega)
  exact xor_lt (halves_lt 4 (by omega)) (by omega)
def moreN (s : Nat) (ns : List Nat) : Nat := 4294967295 ^^^ ns.foldl byteStep (4294967295 ^^^ s)

def spec17 : List DV → Option DV
  | [.int .u32 s, .sl sz l] => if 0 ≤ s ∧ s < 4294967296 ∧ l.length < 9223372036854775808 ∧ (sz = 1 ∨ l = []) then (bytesN l).map fun ns => .int .u32 (moreN s.toNat ns) else none
  | _ => none

theorem v17 {C : FuncId → Con} (hC : ConOk Try.prog C) {sp : List DV → Option DV} (hc43 : C 43 = .val sp) (hs43 : ∀ {n : Nat}, n < 4294967296 → sp [.int .u32 (n : Int)] = some (.int .u32 (halves 4 n : Nat))) : ValOk Try.prog 17 spec17 := by
  refine val_of hC c17 ?_
  intro ds r hr
  unfold spec17 at hr
  split at hr
  · rename_i z sz l
    split at hr
    · rename_i hz
      simp only [Option.map_eq_some_iff] at hr
      obtain ⟨ns, hns, rfl⟩ := hr
      obtain ⟨rfl, hb⟩ := bytesN_inv hns
      obtain ⟨s, rfl⟩ := Int.eq_ofNat_of_zero_le hz.1
      have hs : s < 4294967296 := by omega
      rw [Int.toNat_natCast]
      have hlen : ns.length < 9223372036854775808 := by have := hz.2.2.1; rwa [byteRows_length] at this
      have hF := u32_notF s hs
      simp [af17, IntKind.max, IntKind.signed, IntKind.bits, hF, byteRows_length]
      refine loop_inv (fun k s' => ∃ m j : Nat, j ≤ ns.length ∧ k = ns.length - j ∧ m < 4294967296 ∧ (ns.drop j).foldl byteStep m = ns.foldl byteStep (4294967295 ^^^ s) ∧ s' = ⟨⟨35, [(4, .val (.int .u32 0)), (5, .val (.int .u32 m)), (10, .val (.sl sz (byteRows ns))), (11, .val (.int .i64 ns.length)), (12, .val (.int .i64 j))]⟩, fun _ => none⟩) ⟨ns.length, _, Sub.forget ?_, 4294967295 ^^^ s, 0, by omega, rfl, xor_lt (by omega) hs, rfl, rfl⟩ ?_
      · simp
      rintro k s' ⟨m, j, hj, rfl, hm, hh, rfl⟩
      unfold af17l0
      refine seq_k fun K0 k0 => ?_
      simp
      refine k0 _ ?_
      clear k0 K0
      refine seq_k fun K0 k0 => ?_
      simp
      refine ⟨fun hlt => k0 _ ?_, fun hlt => ?_⟩
      · clear k0 K0
        have hget : ns[j]? = some ns[j] := List.getElem?_eq_getElem hlt
        have hsz : sz = 1 := hz.2.2.2.resolve_right (fun e => by have := congrArg List.length e; rw [byteRows_length] at this; simp at this; simp [this] at hlt)
        subst hsz
        have hc := hb _ (List.getElem_mem hlt)
        have h1 : IntKind.u32.wrap (ns[j] : Int) = ns[j] := wrap_u32_nat _ (by omega)
        have h2 := u32_xor_nat m ns[j] hm (by omega)
        have hx : m ^^^ ns[j] < 4294967296 := xor_lt hm (by omega)
        have h3 := u32_and15 (m ^^^ ns[j]) hx
        have h4 : ((m ^^^ ns[j] : Nat) : Int).fdiv 16 = (((m ^^^ ns[j]) / 16 : Nat) : Int) := fdiv_nat _ 16
        have hy1 : halves 4 ((m ^^^ ns[j]) % 16) < 4294967296 := halves_lt 4 (by omega)
        have h5 := u32_xor_nat (halves 4 ((m ^^^ ns[j]) % 16)) ((m ^^^ ns[j]) / 16) hy1 (by omega)
        have hy : halves 4 ((m ^^^ ns[j]) % 16) ^^^ (m ^^^ ns[j]) / 16 < 4294967296 := xor_lt hy1 (by omega)
        have h6 := u32_and15 _ hy
        have h7 : ((halves 4 ((m ^^^ ns[j]) % 16) ^^^ (m ^^^ ns[j]) / 16 : Nat) : Int).fdiv 16 = (((halves 4 ((m ^^^ ns[j]) % 16) ^^^ (m ^^^ ns[j]) / 16) / 16 : Nat) : Int) := fdiv_nat _ 16
        have h8 := u32_xor_nat (halves 4 ((halves 4 ((m ^^^ ns[j]) % 16) ^^^ (m ^^^ ns[j]) / 16) % 16)) ((halves 4 ((m ^^^ ns[j]) % 16) ^^^ (m ^^^ ns[j]) / 16) / 16) (halves_lt 4 (by omega)) (by omega)
        have h9 : IntKind.i64.wrap ((j : Int) + 1) = ((j + 1 : Nat) : Int) := by rw [wrap_i64_of] <;> omega
        have hbs : byteStep m ns[j] = halves 4 ((halves 4 ((m ^^^ ns[j]) % 16) ^^^ (m ^^^ ns[j]) / 16) % 16) ^^^ (halves 4 ((m ^^^ ns[j]) % 16) ^^^ (m ^^^ ns[j]) / 16) / 16 := rfl
        have hlt2 := byteStep_lt hm hc
        have hfold : (ns.drop (j + 1)).foldl byteStep (byteStep m ns[j]) = ns.foldl byteStep (4294967295 ^^^ s) := by rw [← hh, List.drop_eq_getElem_cons hlt, List.foldl_cons]
        generalize byteStep m ns[j] = bs at hbs hlt2 hfold
        have h10 : (m ^^^ ns[j]) % 16 < 4294967296 := by omega
        have h11 : (halves 4 ((m ^^^ ns[j]) % 16) ^^^ (m ^^^ ns[j]) / 16) % 16 < 4294967296 := by omega
        clear hns hz hh
        generalize halves 4 = g at h5 h6 h7 h8 h11 hbs hs43 hy hy1
        refine seq_k fun K0 k0 => ?_
        rw [wpA_block]
        refine seq_k fun K1 k1 => ?_
        simp [byteRows_get, hget]
        refine k1 _ ?_
        clear k1 K1
        refine seq_k fun K1 k1 => ?_
        simp [h1, h2, -Int.natCast_ediv, -Int.natCast_emod]
        refine k1 _ ?_
        clear k1 K1
        refine seq_k fun K1 k1 => ?_
        simp [h3, h4, h5, h10, hc43, hs43, -Int.natCast_ediv, -Int.natCast_emod, IntKind.bits]
        refine k1 _ ?_
        clear k1 K1
        simp [h6, h7, h8, h11, hc43, hs43, -Int.natCast_ediv, -Int.natCast_emod, IntKind.bits]
        rw [← hbs]
        refine k0 _ ?_
        clear k0 K0
        simp [h9]
        refine ⟨ns.length - (j + 1), by omega, _, Sub.forget ?_, bs, j + 1, by omega, rfl, hlt2, hfold, rfl⟩
        simp
      · clear k0 K0
        have : j = ns.length := by omega
        subst this
        simp at hh
        have h12 := u32_notF m hm
        rw [hh] at h12
        simp [h12, moreN, IntKind.max, IntKind.signed, IntKind.bits, hh]
    · cases hr
  · cases hr

def Bytes (sz : Nat) (l : List (List DV)) : Prop := l.length < 9223372036854775808 ∧ (sz = 1 ∨ l = [])

def spec15 : List DV → Option DV
  | [.sl sz l] => if l.length < 9223372036854775808 ∧ (sz = 1 ∨ l = []) then (bytesN l).map fun ns => .int .u32 (moreN 0 ns) else none
  | _ => none

theorem spec17_at {s : Nat} {sz : Nat} {ns : List Nat} (hs : s < 4294967296) (hn : ns.length < 9223372036854775808) (hb : ∀ n ∈ ns, n < 256) (hz : sz = 1 ∨ ns = []) : spec17 [.int .u32 (s : Int), .sl sz (byteRows ns)] = some (.int .u32 (moreN s ns : Nat)) := by
  simp only [spec17]
  rw [if_pos ⟨by omega, by omega, by rwa [byteRows_length], hz.imp (fun h => h) (fun h => by rw [h]; rfl)⟩, bytesN_rows hb]
  rfl

theorem rows_nil {ns : List Nat} (h : byteRows ns = []) : ns = [] := by
  cases ns with
  | nil => rfl
  | cons => cases h

theorem v15 {C : FuncId → Con} (hC : ConOk Try.prog C) {sp : List DV → Option DV} (hc : C 17 = .val sp) {more : Nat → List Nat → Nat} (hm : moreN = more)
    (hs : ∀ {s : Nat} {sz : Nat} {ns : List Nat}, s < 4294967296 → ns.length < 9223372036854775808 → (∀ n ∈ ns, n < 256) → (sz = 1 ∨ ns = []) → sp [.int .u32 (s : Int), .sl sz (byteRows ns)] = some (.int .u32 (more s ns : Nat))) : ValOk Try.prog 15 spec15 := by
  refine val_of hC c15 ?_
  intro ds r hr
  unfold spec15 at hr
  split at hr
  · rename_i sz l
    split at hr
    · rename_i hz
      simp only [Option.map_eq_some_iff] at hr
      obtain ⟨ns, hns, rfl⟩ := hr
      obtain ⟨rfl, hb⟩ := bytesN_inv hns
      rw [hm]
      rw [byteRows_length] at hz
      have h1 := hs (s := 0) (by omega) hz.1 hb (hz.2.imp (fun h => h) rows_nil)
      simp at h1
      simp [af15, hc, h1]
    · cases hr
  · cases hr

/-! The reference. -/
def refStep (n c : Nat) : Nat := halves 8 (n ^^^ c)
def refN (s : Nat) (ns : List Nat) : Nat := ns.foldl refStep (s ^^^ 4294967295) ^^^ 4294967295
theorem refStep_lt {n c : Nat} (h : n < 4294967296) (hc : c < 256) : refStep n c < 4294967296 := halves_lt 8 (xor_lt h (by omega))

def spec18 : List DV → Option DV
  | [.int .u32 s, .sl sz l] => if 0 ≤ s ∧ s < 4294967296 ∧ l.length < 9223372036854775808 ∧ (sz = 1 ∨ l = []) then (bytesN l).map fun ns => .int .u32 (refN s.toNat ns) else none
  | _ => none

theorem v18 {C : FuncId → Con} (hC : ConOk Try.prog C) : ValOk Try.prog 18 spec18 := by
  refine val_of hC c18 ?_
  intro ds r hr
  unfold spec18 at hr
  split at hr
  · rename_i z sz l
    split at hr
    · rename_i hz
      simp only [Option.map_eq_some_iff] at hr
      obtain ⟨ns, hns, rfl⟩ := hr
      obtain ⟨rfl, hb⟩ := bytesN_inv hns
      obtain ⟨s, rfl⟩ := Int.eq_ofNat_of_zero_le hz.1
      have hs : s < 4294967296 := by omega
      rw [Int.toNat_natCast]
      have hlen : ns.length < 9223372036854775808 := by have := hz.2.2.1; rwa [byteRows_length] at this
      have hF := u32_xorF s hs
      have hsz1 : ∀ j, j < ns.length → sz = 1 := fun j hlt => hz.2.2.2.resolve_right (fun e => by have := congrArg List.length e; rw [byteRows_length] at this; simp at this; simp [this] at hlt)
      simp [af18, hF]
      refine loop_inv (fun k s' => ∃ m j : Nat, j ≤ ns.length ∧ k = ns.length - j ∧ m < 4294967296 ∧ (ns.drop j).foldl refStep m = ns.foldl refStep (s ^^^ 4294967295) ∧ s' = ⟨⟨37, [(1, .val (.sl sz (byteRows ns))), (4, .val (.int .u32 0)), (5, .val (.int .u32 m)), (6, .val (.int .i64 j))]⟩, fun _ => none⟩) ⟨ns.length, _, Sub.forget ?_, s ^^^ 4294967295, 0, by omega, rfl, xor_lt hs (by omega), rfl, rfl⟩ ?_
      · simp
      clear hz hns hF
      rintro k s' ⟨m, j, hj, rfl, hm, hh, rfl⟩
      unfold af18l1
      refine seq_k fun K0 k0 => ?_
      simp [byteRows_length]
      refine ⟨fun hlt => k0 _ ?_, fun hlt => ?_⟩
      · clear k0 K0
        have hget : ns[j]? = some ns[j] := List.getElem?_eq_getElem hlt
        obtain rfl := hsz1 j hlt
        have hc := hb _ (List.getElem_mem hlt)
        have h1 : IntKind.u32.wrap (ns[j] : Int) = ns[j] := wrap_u32_nat _ (by omega)
        have h2 := u32_xor_nat m ns[j] hm (by omega)
        have hx : m ^^^ ns[j] < 4294967296 := xor_lt hm (by omega)
        have h9 : IntKind.i64.wrap ((j : Int) + 1) = ((j + 1 : Nat) : Int) := by rw [wrap_i64_of] <;> omega
        have hfold : (ns.drop (j + 1)).foldl refStep (refStep m ns[j]) = ns.foldl refStep (s ^^^ 4294967295) := by rw [← hh, List.drop_eq_getElem_cons hlt, List.foldl_cons]
        have hrs : refStep m ns[j] = halves 8 (m ^^^ ns[j]) := rfl
        have hlt2 := refStep_lt hm hc
        generalize refStep m ns[j] = bs at hrs hlt2 hfold
        clear hh
        generalize refStep = rst at hfold ⊢
        refine seq_k fun K0 k0 => ?_
        rw [wpA_block]
        refine seq_k fun K1 k1 => ?_
        simp [byteRows_get, hget, h1, h2]
        refine k1 _ ?_
        clear k1 K1
        refine seq_k fun K1 k1 => ?_
        simp
        refine k1 _ ?_
        clear k1 K1
        generalize m ^^^ ns[j] = x at hx hrs
        rw [wpA_block]
        refine loop_inv (fun k s' => ∃ y q : Nat, q ≤ 8 ∧ k = 8 - q ∧ y < 4294967296 ∧ halves k y = halves 8 x ∧ s' = ⟨⟨37, [(1, .val (.sl 1 (byteRows ns))), (4, .val (.int .u32 0)), (5, .val (.int .u32 y)), (6, .val (.int .i64 j)), (7, .val (.int .i64 q))]⟩, fun _ => none⟩) ⟨8, _, Sub.forget ?_, x, 0, by omega, rfl, hx, rfl, rfl⟩ ?_
        · simp
        rintro k s' ⟨y, q, hq, rfl, hy, hh, rfl⟩
        have e1 : (y : Int).tmod 2 = ((y % 2 : Nat) : Int) := tmod_nat y 2
        have e2 : (y : Int).tdiv 2 = ((y / 2 : Nat) : Int) := tdiv_nat y 2
        have e3 : IntKind.u32.wrap ((y / 2 : Nat) : Int) = ((y / 2 : Nat) : Int) := wrap_u32_nat _ (by omega)
        have e4 := u32_xorR (y / 2) (by omega)
        have e5 : IntKind.i64.wrap ((q : Int) + 1) = ((q + 1 : Nat) : Int) := by rw [wrap_i64_of] <;> omega
        have next : q < 8 → halves (8 - (q + 1)) (half y) = halves 8 x := by
          intro h
          rw [← hh, show 8 - q = (8 - (q + 1)) + 1 by omega]
          rfl
        have hpos : y % 2 = 1 → half y = y / 2 ^^^ 3988292384 := fun h => if_pos h
        have hneg : ¬ y % 2 = 1 → half y = y / 2 := fun h => if_neg h
        have hhl := half_lt hy
        have hend : q = 8 → y = bs := by
          intro h
          subst h
          rw [hrs, ← hh]
          rfl
        clear hrs hh
        generalize half y = hf at next hpos hneg hhl
        generalize halves = hvs at next ⊢
        unfold af18l0
        refine seq_k fun K1 k1 => ?_
        simp
        refine ⟨fun hlt' => k1 _ ?_, fun hlt' => k0 _ ?_⟩
        · clear k1 K1
          refine seq_k fun K1 k1 => ?_
          rw [wpA_block]
          refine seq_k fun K2 k2 => ?_
          simp [e1, -Int.natCast_ediv, -Int.natCast_emod]
          refine k2 _ ?_
          clear k2 K2
          simp [e2, e3, e4, -Int.natCast_ediv, -Int.natCast_emod]
          refine ⟨fun hb1 => k1 _ ?_, fun hb1 => k1 _ ?_⟩
          · simp [e5]
            refine ⟨8 - (q + 1), by omega, _, Sub.forget ?_, hf, q + 1, by omega, rfl, hhl, next (by omega), rfl⟩
            simp [hpos (by omega)]
          · simp [e5]
            refine ⟨8 - (q + 1), by omega, _, Sub.forget ?_, hf, q + 1, by omega, rfl, hhl, next (by omega), rfl⟩
            simp [hneg (by omega)]
        · clear k1 K1 k0 K0
          have := hend (by omega)
          subst this
          simp [h9]
          refine ⟨ns.length - (j + 1), by omega, _, Sub.forget ?_, y, j + 1, by omega, rfl, hlt2, hfold, rfl⟩
          simp
      · clear k0 K0
        have : j = ns.length := by omega
        subst this
        simp at hh
        have h12 := u32_xorF m hm
        rw [hh] at h12
        simp [h12, refN, hh]
    · cases hr
  · cases hr

def spec16 : List DV → Option DV
  | [.sl sz l] => if l.length < 9223372036854775808 ∧ (sz = 1 ∨ l = []) then (bytesN l).map fun ns => .int .u32 (refN 0 ns) else none
  | _ => none

theorem spec18_at {s : Nat} {sz : Nat} {ns : List Nat} (hs : s < 4294967296) (hn : ns.length < 9223372036854775808) (hb : ∀ n ∈ ns, n < 256) (hz : sz = 1 ∨ ns = []) : spec18 [.int .u32 (s : Int), .sl sz (byteRows ns)] = some (.int .u32 (refN s ns : Nat)) := by
  simp only [spec18]
  rw [if_pos ⟨by omega, by omega, by rwa [byteRows_length], hz.imp (fun h => h) (fun h => by rw [h]; rfl)⟩, bytesN_rows hb]
  rfl

theorem v16 {C : FuncId → Con} (hC : ConOk Try.prog C) {sp : List DV → Option DV} (hc : C 18 = .val sp) {more : Nat → List Nat → Nat} (hm : refN = more)
    (hs : ∀ {s : Nat} {sz : Nat} {ns : List Nat}, s < 4294967296 → ns.length < 9223372036854775808 → (∀ n ∈ ns, n < 256) → (sz = 1 ∨ ns = []) → sp [.int .u32 (s : Int), .sl sz (byteRows ns)] = some (.int .u32 (more s ns : Nat))) : ValOk Try.prog 16 spec16 := by
  refine val_of hC c16 ?_
  intro ds r hr
  unfold spec16 at hr
  split at hr
  · rename_i sz l
    split at hr
    · rename_i hz
      simp only [Option.map_eq_some_iff] at hr
      obtain ⟨ns, hns, rfl⟩ := hr
      obtain ⟨rfl, hb⟩ := bytesN_inv hns
      rw [hm]
      rw [byteRows_length] at hz
      have h1 := hs (s := 0) (by omega) hz.1 hb (hz.2.imp (fun h => h) rows_nil)
      simp at h1
      simp [af16, hc, h1]
    · cases hr
  · cases hr
end Go.AI
