/-
  No cell of these rows narrows 'for every input' (looked for: loops, veiled, ifaces, maps, wideKeys, modest, calm, conditions, laid).
  DERIVED. THE GIVEN ROWS OF THIS SEAT. 11 by the template 'for every input the law returns true; each argument reads behind the call as it read before'; 0 by the template 'total and deterministic' (their statements: YtgelpkghkgagfaaTotals.lean).
  GIVEN WITH THE SEED: the statements are not yours to turn. If you find one false, say at which input.
  Laid BY PROGRAM, IN A SANDBOX (cutbox-rows.mjs): the forced cells as the released guide's own fill.sh prints them over the translation 0ee4b12b5ed74dc0… (all of the seat's roots in one cut). By AI agents, Wed Nov 11 2026. No macro, syntax, notation, axiom, sorry.
-/
import Derived.Test.YtgelpkghkgagfaaChecked
import GoSem.Claim
import GoSem.ClaimJoined
import GoSem.ClaimMapViews
import Derived.JoinedTies
import Derived.KernelRfl
namespace Go.Proofs.Ytgelpkghkgagfaa
/- THE CELL 'sum', in the pinned program and in every row, IS THE sha256 OF THE DUMP (.gsa) THAT YtgelpkghkgagfaaProg.lean LOADS. Nothing in Lean hashes anything: it is a label: what it is worth is what the hold of that sum in a sandbox is worth. -/
noncomputable def Try.pinned : Pinned := { name := "ytgelpkghkgagfaa", sum := "0ee4b12b5ed74dc01d1c214d07736b8e4ac60e9c77e76b966d696fa5a7307917", checked := Try.checked }
namespace Rows
def none {H : Type} : Left H := { results := [], args := [] }

/-- 'snafflelaw02.CrcRight': WHATEVER THE INPUT: true; the input reads as it did. -/
def crcRightSpec : ChangeSpec := { name := "crcRight", fn := fun _ => fun
  | [d1, d2] => { results := [.lit (.bool true)], args := [d1, d2] }
  | _ => none }
def crcRightRow : OpenClaim := { program := "ytgelpkghkgagfaa", sum := "0ee4b12b5ed74dc01d1c214d07736b8e4ac60e9c77e76b966d696fa5a7307917", func := "snaffle/snafflelaw02.CrcRight", spec := "crcRight", apart := false }
def CrcRightSaid : Prop := crcRightRow.holds Try.pinned (OpenSpec.ofChange crcRightSpec)

/-- ITS FALSE NEIGHBOUR: 'it returns false'. Refute it at one input. -/
def crcRightWrong : ChangeSpec := { name := "crcRight", fn := fun _ => fun
  | [d1, d2] => { results := [.lit (.bool false)], args := [d1, d2] }
  | _ => none }
def CrcRightWrongFalsely : Prop := crcRightRow.holds Try.pinned (OpenSpec.ofChange crcRightWrong)

/-- 'snafflelaw02.CrcParts': WHATEVER THE INPUT: true; the input reads as it did. -/
def crcPartsSpec : ChangeSpec := { name := "crcParts", fn := fun _ => fun
  | [d1, d2, d3, d4] => { results := [.lit (.bool true)], args := [d1, d2, d3, d4] }
  | _ => none }
def crcPartsRow : OpenClaim := { program := "ytgelpkghkgagfaa", sum := "0ee4b12b5ed74dc01d1c214d07736b8e4ac60e9c77e76b966d696fa5a7307917", func := "snaffle/snafflelaw02.CrcParts", spec := "crcParts", apart := false }
def CrcPartsSaid : Prop := crcPartsRow.holds Try.pinned (OpenSpec.ofChange crcPartsSpec)

/-- ITS FALSE NEIGHBOUR: 'it returns false'. Refute it at one input. -/
def crcPartsWrong : ChangeSpec := { name := "crcParts", fn := fun _ => fun
  | [d1, d2, d3, d4] => { results := [.lit (.bool false)], args := [d1, d2, d3, d4] }
  | _ => none }
def CrcPartsWrongFalsely : Prop := crcPartsRow.holds Try.pinned (OpenSpec.ofChange crcPartsWrong)

/-- 'snafflelaw02.CrcBurst': WHATEVER THE INPUT: true; the input reads as it did. -/
def crcBurstSpec : ChangeSpec := { name := "crcBurst", fn := fun _ => fun
  | [d1, d2, d3] => { results := [.lit (.bool true)], args := [d1, d2, d3] }
  | _ => none }
def crcBurstRow : OpenClaim := { program := "ytgelpkghkgagfaa", sum := "0ee4b12b5ed74dc01d1c214d07736b8e4ac60e9c77e76b966d696fa5a7307917", func := "snaffle/snafflelaw02.CrcBurst", spec := "crcBurst", apart := false }
def CrcBurstSaid : Prop := crcBurstRow.holds Try.pinned (OpenSpec.ofChange crcBurstSpec)

/-- ITS FALSE NEIGHBOUR: 'it returns false'. Refute it at one input. -/
def crcBurstWrong : ChangeSpec := { name := "crcBurst", fn := fun _ => fun
  | [d1, d2, d3] => { results := [.lit (.bool false)], args := [d1, d2, d3] }
  | _ => none }
def CrcBurstWrongFalsely : Prop := crcBurstRow.holds Try.pinned (OpenSpec.ofChange crcBurstWrong)

/-- 'snafflelaw02.CrcTurns': WHATEVER THE INPUT: true; the input reads as it did. -/
def crcTurnsSpec : ChangeSpec := { name := "crcTurns", fn := fun _ => fun
  | [d1, d2, d3] => { results := [.lit (.bool true)], args := [d1, d2, d3] }
  | _ => none }
def crcTurnsRow : OpenClaim := { program := "ytgelpkghkgagfaa", sum := "0ee4b12b5ed74dc01d1c214d07736b8e4ac60e9c77e76b966d696fa5a7307917", func := "snaffle/snafflelaw02.CrcTurns", spec := "crcTurns", apart := false }
def CrcTurnsSaid : Prop := crcTurnsRow.holds Try.pinned (OpenSpec.ofChange crcTurnsSpec)

/-- ITS FALSE NEIGHBOUR: 'it returns false'. Refute it at one input. -/
def crcTurnsWrong : ChangeSpec := { name := "crcTurns", fn := fun _ => fun
  | [d1, d2, d3] => { results := [.lit (.bool false)], args := [d1, d2, d3] }
  | _ => none }
def CrcTurnsWrongFalsely : Prop := crcTurnsRow.holds Try.pinned (OpenSpec.ofChange crcTurnsWrong)

/-- 'snafflelaw09.LimitRight': WHATEVER THE INPUT: true; the input reads as it did. -/
def limitRightSpec : ChangeSpec := { name := "limitRight", fn := fun _ => fun
  | [d1, d2, d3, d4, d5, d6, d7] => { results := [.lit (.bool true)], args := [d1, d2, d3, d4, d5, d6, d7] }
  | _ => none }
def limitRightRow : OpenClaim := { program := "ytgelpkghkgagfaa", sum := "0ee4b12b5ed74dc01d1c214d07736b8e4ac60e9c77e76b966d696fa5a7307917", func := "snaffle/snafflelaw09.LimitRight", spec := "limitRight", apart := false }
def LimitRightSaid : Prop := limitRightRow.holds Try.pinned (OpenSpec.ofChange limitRightSpec)

/-- ITS FALSE NEIGHBOUR: 'it returns false'. Refute it at one input. -/
def limitRightWrong : ChangeSpec := { name := "limitRight", fn := fun _ => fun
  | [d1, d2, d3, d4, d5, d6, d7] => { results := [.lit (.bool false)], args := [d1, d2, d3, d4, d5, d6, d7] }
  | _ => none }
def LimitRightWrongFalsely : Prop := limitRightRow.holds Try.pinned (OpenSpec.ofChange limitRightWrong)

/-- 'snafflelaw09.LimitSteps': WHATEVER THE INPUT: true; the input reads as it did. -/
def limitStepsSpec : ChangeSpec := { name := "limitSteps", fn := fun _ => fun
  | [d1, d2, d3, d4, d5, d6] => { results := [.lit (.bool true)], args := [d1, d2, d3, d4, d5, d6] }
  | _ => none }
def limitStepsRow : OpenClaim := { program := "ytgelpkghkgagfaa", sum := "0ee4b12b5ed74dc01d1c214d07736b8e4ac60e9c77e76b966d696fa5a7307917", func := "snaffle/snafflelaw09.LimitSteps", spec := "limitSteps", apart := false }
def LimitStepsSaid : Prop := limitStepsRow.holds Try.pinned (OpenSpec.ofChange limitStepsSpec)

/-- ITS FALSE NEIGHBOUR: 'it returns false'. Refute it at one input. -/
def limitStepsWrong : ChangeSpec := { name := "limitSteps", fn := fun _ => fun
  | [d1, d2, d3, d4, d5, d6] => { results := [.lit (.bool false)], args := [d1, d2, d3, d4, d5, d6] }
  | _ => none }
def LimitStepsWrongFalsely : Prop := limitStepsRow.holds Try.pinned (OpenSpec.ofChange limitStepsWrong)

/-- 'snafflelaw09.LimitKeeps': WHATEVER THE INPUT: true; the input reads as it did. -/
def limitKeepsSpec : ChangeSpec := { name := "limitKeeps", fn := fun _ => fun
  | [d1, d2, d3, d4] => { results := [.lit (.bool true)], args := [d1, d2, d3, d4] }
  | _ => none }
def limitKeepsRow : OpenClaim := { program := "ytgelpkghkgagfaa", sum := "0ee4b12b5ed74dc01d1c214d07736b8e4ac60e9c77e76b966d696fa5a7307917", func := "snaffle/snafflelaw09.LimitKeeps", spec := "limitKeeps", apart := false }
def LimitKeepsSaid : Prop := limitKeepsRow.holds Try.pinned (OpenSpec.ofChange limitKeepsSpec)

/-- ITS FALSE NEIGHBOUR: 'it returns false'. Refute it at one input. -/
def limitKeepsWrong : ChangeSpec := { name := "limitKeeps", fn := fun _ => fun
  | [d1, d2, d3, d4] => { results := [.lit (.bool false)], args := [d1, d2, d3, d4] }
  | _ => none }
def LimitKeepsWrongFalsely : Prop := limitKeepsRow.holds Try.pinned (OpenSpec.ofChange limitKeepsWrong)

/-- 'snafflelaw01.NumRight': WHATEVER THE INPUT: true; the input reads as it did. -/
def numRightSpec : ChangeSpec := { name := "numRight", fn := fun _ => fun
  | [d1, d2, d3] => { results := [.lit (.bool true)], args := [d1, d2, d3] }
  | _ => none }
def numRightRow : OpenClaim := { program := "ytgelpkghkgagfaa", sum := "0ee4b12b5ed74dc01d1c214d07736b8e4ac60e9c77e76b966d696fa5a7307917", func := "snaffle/snafflelaw01.NumRight", spec := "numRight", apart := false }
def NumRightSaid : Prop := numRightRow.holds Try.pinned (OpenSpec.ofChange numRightSpec)

/-- ITS FALSE NEIGHBOUR: 'it returns false'. Refute it at one input. -/
def numRightWrong : ChangeSpec := { name := "numRight", fn := fun _ => fun
  | [d1, d2, d3] => { results := [.lit (.bool false)], args := [d1, d2, d3] }
  | _ => none }
def NumRightWrongFalsely : Prop := numRightRow.holds Try.pinned (OpenSpec.ofChange numRightWrong)

/-- 'snafflelaw01.NumBack': WHATEVER THE INPUT: true; the input reads as it did. -/
def numBackSpec : ChangeSpec := { name := "numBack", fn := fun _ => fun
  | [d1, d2] => { results := [.lit (.bool true)], args := [d1, d2] }
  | _ => none }
def numBackRow : OpenClaim := { program := "ytgelpkghkgagfaa", sum := "0ee4b12b5ed74dc01d1c214d07736b8e4ac60e9c77e76b966d696fa5a7307917", func := "snaffle/snafflelaw01.NumBack", spec := "numBack", apart := false }
def NumBackSaid : Prop := numBackRow.holds Try.pinned (OpenSpec.ofChange numBackSpec)

/-- ITS FALSE NEIGHBOUR: 'it returns false'. Refute it at one input. -/
def numBackWrong : ChangeSpec := { name := "numBack", fn := fun _ => fun
  | [d1, d2] => { results := [.lit (.bool false)], args := [d1, d2] }
  | _ => none }
def NumBackWrongFalsely : Prop := numBackRow.holds Try.pinned (OpenSpec.ofChange numBackWrong)

/-- 'snafflelaw01.NumOver': WHATEVER THE INPUT: true; the input reads as it did. -/
def numOverSpec : ChangeSpec := { name := "numOver", fn := fun _ => fun
  | [d1, d2] => { results := [.lit (.bool true)], args := [d1, d2] }
  | _ => none }
def numOverRow : OpenClaim := { program := "ytgelpkghkgagfaa", sum := "0ee4b12b5ed74dc01d1c214d07736b8e4ac60e9c77e76b966d696fa5a7307917", func := "snaffle/snafflelaw01.NumOver", spec := "numOver", apart := false }
def NumOverSaid : Prop := numOverRow.holds Try.pinned (OpenSpec.ofChange numOverSpec)

/-- ITS FALSE NEIGHBOUR: 'it returns false'. Refute it at one input. -/
def numOverWrong : ChangeSpec := { name := "numOver", fn := fun _ => fun
  | [d1, d2] => { results := [.lit (.bool false)], args := [d1, d2] }
  | _ => none }
def NumOverWrongFalsely : Prop := numOverRow.holds Try.pinned (OpenSpec.ofChange numOverWrong)

/-- 'snafflelaw01.NumTotal': WHATEVER THE INPUT: true; the input reads as it did. -/
def numTotalSpec : ChangeSpec := { name := "numTotal", fn := fun _ => fun
  | [d1, d2] => { results := [.lit (.bool true)], args := [d1, d2] }
  | _ => none }
def numTotalRow : OpenClaim := { program := "ytgelpkghkgagfaa", sum := "0ee4b12b5ed74dc01d1c214d07736b8e4ac60e9c77e76b966d696fa5a7307917", func := "snaffle/snafflelaw01.NumTotal", spec := "numTotal", apart := false }
def NumTotalSaid : Prop := numTotalRow.holds Try.pinned (OpenSpec.ofChange numTotalSpec)

/-- ITS FALSE NEIGHBOUR: 'it returns false'. Refute it at one input. -/
def numTotalWrong : ChangeSpec := { name := "numTotal", fn := fun _ => fun
  | [d1, d2] => { results := [.lit (.bool false)], args := [d1, d2] }
  | _ => none }
def NumTotalWrongFalsely : Prop := numTotalRow.holds Try.pinned (OpenSpec.ofChange numTotalWrong)

/- THE SECOND FORM. 'bulk': how many values and letters a reading holds, each counted each time it is reached (what is shared counts as often as it is met; a slice's spare places count too). A statement '..UptoSaid' is the law's where the arguments, and the package variables that the reading takes, are together of bulk at most 1048576: NARROWER than '..Said'. Prove '..Said' where nothing that the law and all that it calls make is longer than what came in: it says more and counts as full. Else prove '..UptoSaid'. A law counts once. -/
mutual
def uptoBulk {H : Type} : DataW H → Nat
  | .lit (.string bytes) => bytes.length + 1
  | .lit _ => 1
  | .nil => 1
  | .ptr d => uptoBulk d + 1
  | .slice elems spare => uptoBulkAll elems + uptoBulkAll spare + 1
  | .agg parts => uptoBulkAll parts + 1
  | .iface _ d => uptoBulk d + 1
  | .map entries => uptoBulkEntries entries + 1
  | .held _ => 1
def uptoBulkAll {H : Type} : List (DataW H) → Nat
  | [] => 0
  | d :: r => uptoBulk d + uptoBulkAll r
def uptoBulkEntries {H : Type} : List (Lit × DataW H) → Nat
  | [] => 0
  | x :: r => uptoBulkEntry x + uptoBulkEntries r
def uptoBulkEntry {H : Type} : Lit × DataW H → Nat
  | (.string bytes, d) => bytes.length + uptoBulk d + 1
  | (_, d) => uptoBulk d + 1
 end
def uptoSmall : (H : Type) → List (DataW H) → Bool := fun _ ds => decide (uptoBulkAll ds ≤ 1048576)
def OpenSpec.upto (s : _root_.Go.ChangeSpec) : _root_.Go.OpenSpec := { _root_.Go.OpenSpec.ofChange s with cond := some uptoSmall }

/-- 'snafflelaw02.CrcRight', WHERE WHAT IT READS IS OF BULK AT MOST 1048576: true; the input reads as it did. -/
def crcRightUptoRow : OpenClaim := { program := "ytgelpkghkgagfaa", sum := "0ee4b12b5ed74dc01d1c214d07736b8e4ac60e9c77e76b966d696fa5a7307917", func := "snaffle/snafflelaw02.CrcRight", spec := "crcRight", apart := false, narrowed := true }
def CrcRightUptoSaid : Prop := crcRightUptoRow.holds Try.pinned (OpenSpec.upto crcRightSpec)

/-- 'snafflelaw02.CrcParts', WHERE WHAT IT READS IS OF BULK AT MOST 1048576: true; the input reads as it did. -/
def crcPartsUptoRow : OpenClaim := { program := "ytgelpkghkgagfaa", sum := "0ee4b12b5ed74dc01d1c214d07736b8e4ac60e9c77e76b966d696fa5a7307917", func := "snaffle/snafflelaw02.CrcParts", spec := "crcParts", apart := false, narrowed := true }
def CrcPartsUptoSaid : Prop := crcPartsUptoRow.holds Try.pinned (OpenSpec.upto crcPartsSpec)

/-- 'snafflelaw02.CrcBurst', WHERE WHAT IT READS IS OF BULK AT MOST 1048576: true; the input reads as it did. -/
def crcBurstUptoRow : OpenClaim := { program := "ytgelpkghkgagfaa", sum := "0ee4b12b5ed74dc01d1c214d07736b8e4ac60e9c77e76b966d696fa5a7307917", func := "snaffle/snafflelaw02.CrcBurst", spec := "crcBurst", apart := false, narrowed := true }
def CrcBurstUptoSaid : Prop := crcBurstUptoRow.holds Try.pinned (OpenSpec.upto crcBurstSpec)

/-- 'snafflelaw02.CrcTurns', WHERE WHAT IT READS IS OF BULK AT MOST 1048576: true; the input reads as it did. -/
def crcTurnsUptoRow : OpenClaim := { program := "ytgelpkghkgagfaa", sum := "0ee4b12b5ed74dc01d1c214d07736b8e4ac60e9c77e76b966d696fa5a7307917", func := "snaffle/snafflelaw02.CrcTurns", spec := "crcTurns", apart := false, narrowed := true }
def CrcTurnsUptoSaid : Prop := crcTurnsUptoRow.holds Try.pinned (OpenSpec.upto crcTurnsSpec)

/-- 'snafflelaw09.LimitRight', WHERE WHAT IT READS IS OF BULK AT MOST 1048576: true; the input reads as it did. -/
def limitRightUptoRow : OpenClaim := { program := "ytgelpkghkgagfaa", sum := "0ee4b12b5ed74dc01d1c214d07736b8e4ac60e9c77e76b966d696fa5a7307917", func := "snaffle/snafflelaw09.LimitRight", spec := "limitRight", apart := false, narrowed := true }
def LimitRightUptoSaid : Prop := limitRightUptoRow.holds Try.pinned (OpenSpec.upto limitRightSpec)

/-- 'snafflelaw09.LimitSteps', WHERE WHAT IT READS IS OF BULK AT MOST 1048576: true; the input reads as it did. -/
def limitStepsUptoRow : OpenClaim := { program := "ytgelpkghkgagfaa", sum := "0ee4b12b5ed74dc01d1c214d07736b8e4ac60e9c77e76b966d696fa5a7307917", func := "snaffle/snafflelaw09.LimitSteps", spec := "limitSteps", apart := false, narrowed := true }
def LimitStepsUptoSaid : Prop := limitStepsUptoRow.holds Try.pinned (OpenSpec.upto limitStepsSpec)

/-- 'snafflelaw09.LimitKeeps', WHERE WHAT IT READS IS OF BULK AT MOST 1048576: true; the input reads as it did. -/
def limitKeepsUptoRow : OpenClaim := { program := "ytgelpkghkgagfaa", sum := "0ee4b12b5ed74dc01d1c214d07736b8e4ac60e9c77e76b966d696fa5a7307917", func := "snaffle/snafflelaw09.LimitKeeps", spec := "limitKeeps", apart := false, narrowed := true }
def LimitKeepsUptoSaid : Prop := limitKeepsUptoRow.holds Try.pinned (OpenSpec.upto limitKeepsSpec)

/-- 'snafflelaw01.NumRight', WHERE WHAT IT READS IS OF BULK AT MOST 1048576: true; the input reads as it did. -/
def numRightUptoRow : OpenClaim := { program := "ytgelpkghkgagfaa", sum := "0ee4b12b5ed74dc01d1c214d07736b8e4ac60e9c77e76b966d696fa5a7307917", func := "snaffle/snafflelaw01.NumRight", spec := "numRight", apart := false, narrowed := true }
def NumRightUptoSaid : Prop := numRightUptoRow.holds Try.pinned (OpenSpec.upto numRightSpec)

/-- 'snafflelaw01.NumBack', WHERE WHAT IT READS IS OF BULK AT MOST 1048576: true; the input reads as it did. -/
def numBackUptoRow : OpenClaim := { program := "ytgelpkghkgagfaa", sum := "0ee4b12b5ed74dc01d1c214d07736b8e4ac60e9c77e76b966d696fa5a7307917", func := "snaffle/snafflelaw01.NumBack", spec := "numBack", apart := false, narrowed := true }
def NumBackUptoSaid : Prop := numBackUptoRow.holds Try.pinned (OpenSpec.upto numBackSpec)

/-- 'snafflelaw01.NumOver', WHERE WHAT IT READS IS OF BULK AT MOST 1048576: true; the input reads as it did. -/
def numOverUptoRow : OpenClaim := { program := "ytgelpkghkgagfaa", sum := "0ee4b12b5ed74dc01d1c214d07736b8e4ac60e9c77e76b966d696fa5a7307917", func := "snaffle/snafflelaw01.NumOver", spec := "numOver", apart := false, narrowed := true }
def NumOverUptoSaid : Prop := numOverUptoRow.holds Try.pinned (OpenSpec.upto numOverSpec)

/-- 'snafflelaw01.NumTotal', WHERE WHAT IT READS IS OF BULK AT MOST 1048576: true; the input reads as it did. -/
def numTotalUptoRow : OpenClaim := { program := "ytgelpkghkgagfaa", sum := "0ee4b12b5ed74dc01d1c214d07736b8e4ac60e9c77e76b966d696fa5a7307917", func := "snaffle/snafflelaw01.NumTotal", spec := "numTotal", apart := false, narrowed := true }
def NumTotalUptoSaid : Prop := numTotalUptoRow.holds Try.pinned (OpenSpec.upto numTotalSpec)

end Rows
end Go.Proofs.Ytgelpkghkgagfaa
