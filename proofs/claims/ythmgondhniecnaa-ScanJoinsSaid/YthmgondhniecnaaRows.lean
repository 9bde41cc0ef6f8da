/-
  No cell of these rows narrows 'for every input' (looked for: loops, veiled, ifaces, maps, wideKeys, modest, calm, conditions, laid).
  DERIVED. THE GIVEN ROWS OF THIS SEAT. 10 by the template 'for every input the law returns true; each argument reads behind the call as it read before'; 0 by the template 'total and deterministic' (their statements: YthmgondhniecnaaTotals.lean).
  GIVEN WITH THE SEED: the statements are not yours to turn. If you find one false, say at which input.
  Laid BY PROGRAM, IN A SANDBOX (cutbox-rows.mjs): the forced cells as the released guide's own fill.sh prints them over the translation 9e648165226449c1… (all of the seat's roots in one cut). By AI agents, Wed Nov 11 2026. No macro, syntax, notation, axiom, sorry.
-/
import Derived.Test.YthmgondhniecnaaChecked
import GoSem.Claim
import GoSem.ClaimJoined
import GoSem.ClaimMapViews
import Derived.JoinedTies
import Derived.KernelRfl
namespace Go.Proofs.Ythmgondhniecnaa
/- THE CELL 'sum', in the pinned program and in every row, IS THE sha256 OF THE DUMP (.gsa) THAT YthmgondhniecnaaProg.lean LOADS. Nothing in Lean hashes anything: it is a label: what it is worth is what the hold of that sum in a sandbox is worth. -/
noncomputable def Try.pinned : Pinned := { name := "ythmgondhniecnaa", sum := "9e648165226449c1e577c830edebc3929e98d519f0dad22837647532ae003b38", checked := Try.checked }
namespace Rows
def none {H : Type} : Left H := { results := [], args := [] }

/-- 'snafflelaw04.FrameRight': WHATEVER THE INPUT: true; the input reads as it did. -/
def frameRightSpec : ChangeSpec := { name := "frameRight", fn := fun _ => fun
  | [d1, d2] => { results := [.lit (.bool true)], args := [d1, d2] }
  | _ => none }
def frameRightRow : OpenClaim := { program := "ythmgondhniecnaa", sum := "9e648165226449c1e577c830edebc3929e98d519f0dad22837647532ae003b38", func := "snaffle/snafflelaw04.FrameRight", spec := "frameRight", apart := false }
def FrameRightSaid : Prop := frameRightRow.holds Try.pinned (OpenSpec.ofChange frameRightSpec)

/-- ITS FALSE NEIGHBOUR: 'it returns false'. Refute it at one input. -/
def frameRightWrong : ChangeSpec := { name := "frameRight", fn := fun _ => fun
  | [d1, d2] => { results := [.lit (.bool false)], args := [d1, d2] }
  | _ => none }
def FrameRightWrongFalsely : Prop := frameRightRow.holds Try.pinned (OpenSpec.ofChange frameRightWrong)

/-- 'snafflelaw04.FrameBack': WHATEVER THE INPUT: true; the input reads as it did. -/
def frameBackSpec : ChangeSpec := { name := "frameBack", fn := fun _ => fun
  | [d1, d2, d3] => { results := [.lit (.bool true)], args := [d1, d2, d3] }
  | _ => none }
def frameBackRow : OpenClaim := { program := "ythmgondhniecnaa", sum := "9e648165226449c1e577c830edebc3929e98d519f0dad22837647532ae003b38", func := "snaffle/snafflelaw04.FrameBack", spec := "frameBack", apart := false }
def FrameBackSaid : Prop := frameBackRow.holds Try.pinned (OpenSpec.ofChange frameBackSpec)

/-- ITS FALSE NEIGHBOUR: 'it returns false'. Refute it at one input. -/
def frameBackWrong : ChangeSpec := { name := "frameBack", fn := fun _ => fun
  | [d1, d2, d3] => { results := [.lit (.bool false)], args := [d1, d2, d3] }
  | _ => none }
def FrameBackWrongFalsely : Prop := frameBackRow.holds Try.pinned (OpenSpec.ofChange frameBackWrong)

/-- 'snafflelaw04.FrameTurned': WHATEVER THE INPUT: true; the input reads as it did. -/
def frameTurnedSpec : ChangeSpec := { name := "frameTurned", fn := fun _ => fun
  | [d1, d2, d3, d4, d5] => { results := [.lit (.bool true)], args := [d1, d2, d3, d4, d5] }
  | _ => none }
def frameTurnedRow : OpenClaim := { program := "ythmgondhniecnaa", sum := "9e648165226449c1e577c830edebc3929e98d519f0dad22837647532ae003b38", func := "snaffle/snafflelaw04.FrameTurned", spec := "frameTurned", apart := false }
def FrameTurnedSaid : Prop := frameTurnedRow.holds Try.pinned (OpenSpec.ofChange frameTurnedSpec)

/-- ITS FALSE NEIGHBOUR: 'it returns false'. Refute it at one input. -/
def frameTurnedWrong : ChangeSpec := { name := "frameTurned", fn := fun _ => fun
  | [d1, d2, d3, d4, d5] => { results := [.lit (.bool false)], args := [d1, d2, d3, d4, d5] }
  | _ => none }
def FrameTurnedWrongFalsely : Prop := frameTurnedRow.holds Try.pinned (OpenSpec.ofChange frameTurnedWrong)

/-- 'snafflelaw05.ScanRight': WHATEVER THE INPUT: true; the input reads as it did. -/
def scanRightSpec : ChangeSpec := { name := "scanRight", fn := fun _ => fun
  | [d1, d2, d3, d4] => { results := [.lit (.bool true)], args := [d1, d2, d3, d4] }
  | _ => none }
def scanRightRow : OpenClaim := { program := "ythmgondhniecnaa", sum := "9e648165226449c1e577c830edebc3929e98d519f0dad22837647532ae003b38", func := "snaffle/snafflelaw05.ScanRight", spec := "scanRight", apart := false }
def ScanRightSaid : Prop := scanRightRow.holds Try.pinned (OpenSpec.ofChange scanRightSpec)

/-- ITS FALSE NEIGHBOUR: 'it returns false'. Refute it at one input. -/
def scanRightWrong : ChangeSpec := { name := "scanRight", fn := fun _ => fun
  | [d1, d2, d3, d4] => { results := [.lit (.bool false)], args := [d1, d2, d3, d4] }
  | _ => none }
def ScanRightWrongFalsely : Prop := scanRightRow.holds Try.pinned (OpenSpec.ofChange scanRightWrong)

/-- 'snafflelaw05.ScanBack': WHATEVER THE INPUT: true; the input reads as it did. -/
def scanBackSpec : ChangeSpec := { name := "scanBack", fn := fun _ => fun
  | [d1, d2, d3, d4, d5] => { results := [.lit (.bool true)], args := [d1, d2, d3, d4, d5] }
  | _ => none }
def scanBackRow : OpenClaim := { program := "ythmgondhniecnaa", sum := "9e648165226449c1e577c830edebc3929e98d519f0dad22837647532ae003b38", func := "snaffle/snafflelaw05.ScanBack", spec := "scanBack", apart := false }
def ScanBackSaid : Prop := scanBackRow.holds Try.pinned (OpenSpec.ofChange scanBackSpec)

/-- ITS FALSE NEIGHBOUR: 'it returns false'. Refute it at one input. -/
def scanBackWrong : ChangeSpec := { name := "scanBack", fn := fun _ => fun
  | [d1, d2, d3, d4, d5] => { results := [.lit (.bool false)], args := [d1, d2, d3, d4, d5] }
  | _ => none }
def ScanBackWrongFalsely : Prop := scanBackRow.holds Try.pinned (OpenSpec.ofChange scanBackWrong)

/-- 'snafflelaw05.ScanTurned': WHATEVER THE INPUT: true; the input reads as it did. -/
def scanTurnedSpec : ChangeSpec := { name := "scanTurned", fn := fun _ => fun
  | [d1, d2, d3, d4, d5] => { results := [.lit (.bool true)], args := [d1, d2, d3, d4, d5] }
  | _ => none }
def scanTurnedRow : OpenClaim := { program := "ythmgondhniecnaa", sum := "9e648165226449c1e577c830edebc3929e98d519f0dad22837647532ae003b38", func := "snaffle/snafflelaw05.ScanTurned", spec := "scanTurned", apart := false }
def ScanTurnedSaid : Prop := scanTurnedRow.holds Try.pinned (OpenSpec.ofChange scanTurnedSpec)

/-- ITS FALSE NEIGHBOUR: 'it returns false'. Refute it at one input. -/
def scanTurnedWrong : ChangeSpec := { name := "scanTurned", fn := fun _ => fun
  | [d1, d2, d3, d4, d5] => { results := [.lit (.bool false)], args := [d1, d2, d3, d4, d5] }
  | _ => none }
def ScanTurnedWrongFalsely : Prop := scanTurnedRow.holds Try.pinned (OpenSpec.ofChange scanTurnedWrong)

/-- 'snafflelaw05.ScanJoins': WHATEVER THE INPUT: true; the input reads as it did. -/
def scanJoinsSpec : ChangeSpec := { name := "scanJoins", fn := fun _ => fun
  | [d1, d2, d3, d4] => { results := [.lit (.bool true)], args := [d1, d2, d3, d4] }
  | _ => none }
def scanJoinsRow : OpenClaim := { program := "ythmgondhniecnaa", sum := "9e648165226449c1e577c830edebc3929e98d519f0dad22837647532ae003b38", func := "snaffle/snafflelaw05.ScanJoins", spec := "scanJoins", apart := false }
def ScanJoinsSaid : Prop := scanJoinsRow.holds Try.pinned (OpenSpec.ofChange scanJoinsSpec)

/-- ITS FALSE NEIGHBOUR: 'it returns false'. Refute it at one input. -/
def scanJoinsWrong : ChangeSpec := { name := "scanJoins", fn := fun _ => fun
  | [d1, d2, d3, d4] => { results := [.lit (.bool false)], args := [d1, d2, d3, d4] }
  | _ => none }
def ScanJoinsWrongFalsely : Prop := scanJoinsRow.holds Try.pinned (OpenSpec.ofChange scanJoinsWrong)

/-- 'snafflelaw06.RecRight': WHATEVER THE INPUT: true; the input reads as it did. -/
def recRightSpec : ChangeSpec := { name := "recRight", fn := fun _ => fun
  | [d1, d2, d3, d4, d5, d6] => { results := [.lit (.bool true)], args := [d1, d2, d3, d4, d5, d6] }
  | _ => none }
def recRightRow : OpenClaim := { program := "ythmgondhniecnaa", sum := "9e648165226449c1e577c830edebc3929e98d519f0dad22837647532ae003b38", func := "snaffle/snafflelaw06.RecRight", spec := "recRight", apart := false }
def RecRightSaid : Prop := recRightRow.holds Try.pinned (OpenSpec.ofChange recRightSpec)

/-- ITS FALSE NEIGHBOUR: 'it returns false'. Refute it at one input. -/
def recRightWrong : ChangeSpec := { name := "recRight", fn := fun _ => fun
  | [d1, d2, d3, d4, d5, d6] => { results := [.lit (.bool false)], args := [d1, d2, d3, d4, d5, d6] }
  | _ => none }
def RecRightWrongFalsely : Prop := recRightRow.holds Try.pinned (OpenSpec.ofChange recRightWrong)

/-- 'snafflelaw06.RecFields': WHATEVER THE INPUT: true; the input reads as it did. -/
def recFieldsSpec : ChangeSpec := { name := "recFields", fn := fun _ => fun
  | [d1, d2] => { results := [.lit (.bool true)], args := [d1, d2] }
  | _ => none }
def recFieldsRow : OpenClaim := { program := "ythmgondhniecnaa", sum := "9e648165226449c1e577c830edebc3929e98d519f0dad22837647532ae003b38", func := "snaffle/snafflelaw06.RecFields", spec := "recFields", apart := false }
def RecFieldsSaid : Prop := recFieldsRow.holds Try.pinned (OpenSpec.ofChange recFieldsSpec)

/-- ITS FALSE NEIGHBOUR: 'it returns false'. Refute it at one input. -/
def recFieldsWrong : ChangeSpec := { name := "recFields", fn := fun _ => fun
  | [d1, d2] => { results := [.lit (.bool false)], args := [d1, d2] }
  | _ => none }
def RecFieldsWrongFalsely : Prop := recFieldsRow.holds Try.pinned (OpenSpec.ofChange recFieldsWrong)

/-- 'snafflelaw06.RecBack': WHATEVER THE INPUT: true; the input reads as it did. -/
def recBackSpec : ChangeSpec := { name := "recBack", fn := fun _ => fun
  | [d1, d2, d3, d4] => { results := [.lit (.bool true)], args := [d1, d2, d3, d4] }
  | _ => none }
def recBackRow : OpenClaim := { program := "ythmgondhniecnaa", sum := "9e648165226449c1e577c830edebc3929e98d519f0dad22837647532ae003b38", func := "snaffle/snafflelaw06.RecBack", spec := "recBack", apart := false }
def RecBackSaid : Prop := recBackRow.holds Try.pinned (OpenSpec.ofChange recBackSpec)

/-- ITS FALSE NEIGHBOUR: 'it returns false'. Refute it at one input. -/
def recBackWrong : ChangeSpec := { name := "recBack", fn := fun _ => fun
  | [d1, d2, d3, d4] => { results := [.lit (.bool false)], args := [d1, d2, d3, d4] }
  | _ => none }
def RecBackWrongFalsely : Prop := recBackRow.holds Try.pinned (OpenSpec.ofChange recBackWrong)

/- THE SECOND FORM. 'bulk': how many values and letters a reading holds, each counted each time it is reached (what is shared counts as often as it is met; a slice's spare places count too). A statement '..UptoSaid' is the law's where the arguments, and the package variables that the reading takes, are together of bulk at most 1048576: NARROWER than '..Said'. Prove '..Said' where nothing that the law and all that it calls make is longer than what came in: it says more and counts as full. Else prove '..UptoSaid'. A law counts once. -/
mutual
def uptoBulk {H : Type} : DataW H → Nat
  | .lit (.string bytes) => bytes.length + 1
  | .lit _ => 1
  | .nil => 1
  | .ptr d => uptoBulk d + 1
  | .slice elems spare => uptoBulkAll elems + uptoBulkAll spare + 1
  | .agg parts => uptoBulkAll parts + 1
  | .iface _ d => uptoBulk d + 1
  | .map entries => uptoBulkEntries entries + 1
  | .held _ => 1
def uptoBulkAll {H : Type} : List (DataW H) → Nat
  | [] => 0
  | d :: r => uptoBulk d + uptoBulkAll r
def uptoBulkEntries {H : Type} : List (Lit × DataW H) → Nat
  | [] => 0
  | x :: r => uptoBulkEntry x + uptoBulkEntries r
def uptoBulkEntry {H : Type} : Lit × DataW H → Nat
  | (.string bytes, d) => bytes.length + uptoBulk d + 1
  | (_, d) => uptoBulk d + 1
 end
def uptoSmall : (H : Type) → List (DataW H) → Bool := fun _ ds => decide (uptoBulkAll ds ≤ 1048576)
def OpenSpec.upto (s : _root_.Go.ChangeSpec) : _root_.Go.OpenSpec := { _root_.Go.OpenSpec.ofChange s with cond := some uptoSmall }

/-- 'snafflelaw04.FrameRight', WHERE WHAT IT READS IS OF BULK AT MOST 1048576: true; the input reads as it did. -/
def frameRightUptoRow : OpenClaim := { program := "ythmgondhniecnaa", sum := "9e648165226449c1e577c830edebc3929e98d519f0dad22837647532ae003b38", func := "snaffle/snafflelaw04.FrameRight", spec := "frameRight", apart := false, narrowed := true }
def FrameRightUptoSaid : Prop := frameRightUptoRow.holds Try.pinned (OpenSpec.upto frameRightSpec)

/-- 'snafflelaw04.FrameBack', WHERE WHAT IT READS IS OF BULK AT MOST 1048576: true; the input reads as it did. -/
def frameBackUptoRow : OpenClaim := { program := "ythmgondhniecnaa", sum := "9e648165226449c1e577c830edebc3929e98d519f0dad22837647532ae003b38", func := "snaffle/snafflelaw04.FrameBack", spec := "frameBack", apart := false, narrowed := true }
def FrameBackUptoSaid : Prop := frameBackUptoRow.holds Try.pinned (OpenSpec.upto frameBackSpec)

/-- 'snafflelaw04.FrameTurned', WHERE WHAT IT READS IS OF BULK AT MOST 1048576: true; the input reads as it did. -/
def frameTurnedUptoRow : OpenClaim := { program := "ythmgondhniecnaa", sum := "9e648165226449c1e577c830edebc3929e98d519f0dad22837647532ae003b38", func := "snaffle/snafflelaw04.FrameTurned", spec := "frameTurned", apart := false, narrowed := true }
def FrameTurnedUptoSaid : Prop := frameTurnedUptoRow.holds Try.pinned (OpenSpec.upto frameTurnedSpec)

/-- 'snafflelaw05.ScanRight', WHERE WHAT IT READS IS OF BULK AT MOST 1048576: true; the input reads as it did. -/
def scanRightUptoRow : OpenClaim := { program := "ythmgondhniecnaa", sum := "9e648165226449c1e577c830edebc3929e98d519f0dad22837647532ae003b38", func := "snaffle/snafflelaw05.ScanRight", spec := "scanRight", apart := false, narrowed := true }
def ScanRightUptoSaid : Prop := scanRightUptoRow.holds Try.pinned (OpenSpec.upto scanRightSpec)

/-- 'snafflelaw05.ScanBack', WHERE WHAT IT READS IS OF BULK AT MOST 1048576: true; the input reads as it did. -/
def scanBackUptoRow : OpenClaim := { program := "ythmgondhniecnaa", sum := "9e648165226449c1e577c830edebc3929e98d519f0dad22837647532ae003b38", func := "snaffle/snafflelaw05.ScanBack", spec := "scanBack", apart := false, narrowed := true }
def ScanBackUptoSaid : Prop := scanBackUptoRow.holds Try.pinned (OpenSpec.upto scanBackSpec)

/-- 'snafflelaw05.ScanTurned', WHERE WHAT IT READS IS OF BULK AT MOST 1048576: true; the input reads as it did. -/
def scanTurnedUptoRow : OpenClaim := { program := "ythmgondhniecnaa", sum := "9e648165226449c1e577c830edebc3929e98d519f0dad22837647532ae003b38", func := "snaffle/snafflelaw05.ScanTurned", spec := "scanTurned", apart := false, narrowed := true }
def ScanTurnedUptoSaid : Prop := scanTurnedUptoRow.holds Try.pinned (OpenSpec.upto scanTurnedSpec)

/-- 'snafflelaw05.ScanJoins', WHERE WHAT IT READS IS OF BULK AT MOST 1048576: true; the input reads as it did. -/
def scanJoinsUptoRow : OpenClaim := { program := "ythmgondhniecnaa", sum := "9e648165226449c1e577c830edebc3929e98d519f0dad22837647532ae003b38", func := "snaffle/snafflelaw05.ScanJoins", spec := "scanJoins", apart := false, narrowed := true }
def ScanJoinsUptoSaid : Prop := scanJoinsUptoRow.holds Try.pinned (OpenSpec.upto scanJoinsSpec)

/-- 'snafflelaw06.RecRight', WHERE WHAT IT READS IS OF BULK AT MOST 1048576: true; the input reads as it did. -/
def recRightUptoRow : OpenClaim := { program := "ythmgondhniecnaa", sum := "9e648165226449c1e577c830edebc3929e98d519f0dad22837647532ae003b38", func := "snaffle/snafflelaw06.RecRight", spec := "recRight", apart := false, narrowed := true }
def RecRightUptoSaid : Prop := recRightUptoRow.holds Try.pinned (OpenSpec.upto recRightSpec)

/-- 'snafflelaw06.RecFields', WHERE WHAT IT READS IS OF BULK AT MOST 1048576: true; the input reads as it did. -/
def recFieldsUptoRow : OpenClaim := { program := "ythmgondhniecnaa", sum := "9e648165226449c1e577c830edebc3929e98d519f0dad22837647532ae003b38", func := "snaffle/snafflelaw06.RecFields", spec := "recFields", apart := false, narrowed := true }
def RecFieldsUptoSaid : Prop := recFieldsUptoRow.holds Try.pinned (OpenSpec.upto recFieldsSpec)

/-- 'snafflelaw06.RecBack', WHERE WHAT IT READS IS OF BULK AT MOST 1048576: true; the input reads as it did. -/
def recBackUptoRow : OpenClaim := { program := "ythmgondhniecnaa", sum := "9e648165226449c1e577c830edebc3929e98d519f0dad22837647532ae003b38", func := "snaffle/snafflelaw06.RecBack", spec := "recBack", apart := false, narrowed := true }
def RecBackUptoSaid : Prop := recBackUptoRow.holds Try.pinned (OpenSpec.upto recBackSpec)

end Rows
end Go.Proofs.Ythmgondhniecnaa
