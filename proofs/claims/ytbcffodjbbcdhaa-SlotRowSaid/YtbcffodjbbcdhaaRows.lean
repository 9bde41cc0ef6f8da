/-
  No cell of these rows narrows 'for every input' (looked for: loops, veiled, ifaces, maps, wideKeys, modest, calm, conditions, laid).
  DERIVED. THE GIVEN ROWS OF THIS SEAT. 8 by the template 'for every input the law returns true; each argument reads behind the call as it read before'; 0 by the template 'total and deterministic' (their statements: YtbcffodjbbcdhaaTotals.lean).
  GIVEN WITH THE SEED: the statements are not yours to turn. If you find one false, say at which input.
  Laid BY PROGRAM, IN A SANDBOX (cutbox-rows.mjs): the forced cells as the released guide's own fill.sh prints them over the translation 7d99d6b38f9806eb… (all of the seat's roots in one cut). By AI agents, Wed Nov 11 2026. No macro, syntax, notation, axiom, sorry.
-/
import Derived.Test.YtbcffodjbbcdhaaChecked
import GoSem.Claim
import GoSem.ClaimJoined
import GoSem.ClaimMapViews
import Derived.JoinedTies
import Derived.KernelRfl
namespace Go.Proofs.Ytbcffodjbbcdhaa
/- THE CELL 'sum', in the pinned program and in every row, IS THE sha256 OF THE DUMP (.gsa) THAT YtbcffodjbbcdhaaProg.lean LOADS. Nothing in Lean hashes anything: it is a label: what it is worth is what the hold of that sum in a sandbox is worth. -/
noncomputable def Try.pinned : Pinned := { name := "ytbcffodjbbcdhaa", sum := "7d99d6b38f9806eba543201a3ad62bdd8ce990018016df530f9ad968e270787f", checked := Try.checked }
namespace Rows
def none {H : Type} : Left H := { results := [], args := [] }

/-- 'snafflelaw03.DiskBack': WHATEVER THE INPUT: true; the input reads as it did. -/
def diskBackSpec : ChangeSpec := { name := "diskBack", fn := fun _ => fun
  | [d1, d2, d3] => { results := [.lit (.bool true)], args := [d1, d2, d3] }
  | _ => none }
def diskBackRow : OpenClaim := { program := "ytbcffodjbbcdhaa", sum := "7d99d6b38f9806eba543201a3ad62bdd8ce990018016df530f9ad968e270787f", func := "snaffle/snafflelaw03.DiskBack", spec := "diskBack", inPlace := ["internal/bytealg.abigen_runtime_cmpstring", "slices.overlaps[snaffle/api.File]"], unfollowed := true, recurses := true, apart := false }
def DiskBackSaid : Prop := diskBackRow.holds Try.pinned (OpenSpec.ofChange diskBackSpec)

/-- ITS FALSE NEIGHBOUR: 'it returns false'. Refute it at one input. -/
def diskBackWrong : ChangeSpec := { name := "diskBack", fn := fun _ => fun
  | [d1, d2, d3] => { results := [.lit (.bool false)], args := [d1, d2, d3] }
  | _ => none }
def DiskBackWrongFalsely : Prop := diskBackRow.holds Try.pinned (OpenSpec.ofChange diskBackWrong)

/-- 'snafflelaw03.DiskJoins': WHATEVER THE INPUT: true; the input reads as it did. -/
def diskJoinsSpec : ChangeSpec := { name := "diskJoins", fn := fun _ => fun
  | [d1, d2, d3, d4, d5, d6] => { results := [.lit (.bool true)], args := [d1, d2, d3, d4, d5, d6] }
  | _ => none }
def diskJoinsRow : OpenClaim := { program := "ytbcffodjbbcdhaa", sum := "7d99d6b38f9806eba543201a3ad62bdd8ce990018016df530f9ad968e270787f", func := "snaffle/snafflelaw03.DiskJoins", spec := "diskJoins", inPlace := ["internal/bytealg.abigen_runtime_cmpstring", "slices.overlaps[snaffle/api.File]"], unfollowed := true, recurses := true, apart := false }
def DiskJoinsSaid : Prop := diskJoinsRow.holds Try.pinned (OpenSpec.ofChange diskJoinsSpec)

/-- ITS FALSE NEIGHBOUR: 'it returns false'. Refute it at one input. -/
def diskJoinsWrong : ChangeSpec := { name := "diskJoins", fn := fun _ => fun
  | [d1, d2, d3, d4, d5, d6] => { results := [.lit (.bool false)], args := [d1, d2, d3, d4, d5, d6] }
  | _ => none }
def DiskJoinsWrongFalsely : Prop := diskJoinsRow.holds Try.pinned (OpenSpec.ofChange diskJoinsWrong)

/-- 'snafflelaw03.DiskRight': WHATEVER THE INPUT: true; the input reads as it did. -/
def diskRightSpec : ChangeSpec := { name := "diskRight", fn := fun _ => fun
  | [d1, d2, d3, d4, d5, d6, d7] => { results := [.lit (.bool true)], args := [d1, d2, d3, d4, d5, d6, d7] }
  | _ => none }
def diskRightRow : OpenClaim := { program := "ytbcffodjbbcdhaa", sum := "7d99d6b38f9806eba543201a3ad62bdd8ce990018016df530f9ad968e270787f", func := "snaffle/snafflelaw03.DiskRight", spec := "diskRight", inPlace := ["internal/bytealg.abigen_runtime_cmpstring", "slices.overlaps[snaffle/api.File]"], unfollowed := true, recurses := true, apart := false }
def DiskRightSaid : Prop := diskRightRow.holds Try.pinned (OpenSpec.ofChange diskRightSpec)

/-- ITS FALSE NEIGHBOUR: 'it returns false'. Refute it at one input. -/
def diskRightWrong : ChangeSpec := { name := "diskRight", fn := fun _ => fun
  | [d1, d2, d3, d4, d5, d6, d7] => { results := [.lit (.bool false)], args := [d1, d2, d3, d4, d5, d6, d7] }
  | _ => none }
def DiskRightWrongFalsely : Prop := diskRightRow.holds Try.pinned (OpenSpec.ofChange diskRightWrong)

/-- 'snafflelaw03.DiskFuse': WHATEVER THE INPUT: true; the input reads as it did. -/
def diskFuseSpec : ChangeSpec := { name := "diskFuse", fn := fun _ => fun
  | [d1, d2, d3] => { results := [.lit (.bool true)], args := [d1, d2, d3] }
  | _ => none }
def diskFuseRow : OpenClaim := { program := "ytbcffodjbbcdhaa", sum := "7d99d6b38f9806eba543201a3ad62bdd8ce990018016df530f9ad968e270787f", func := "snaffle/snafflelaw03.DiskFuse", spec := "diskFuse", inPlace := ["internal/bytealg.abigen_runtime_cmpstring", "slices.overlaps[snaffle/api.File]"], unfollowed := true, recurses := true, apart := false }
def DiskFuseSaid : Prop := diskFuseRow.holds Try.pinned (OpenSpec.ofChange diskFuseSpec)

/-- ITS FALSE NEIGHBOUR: 'it returns false'. Refute it at one input. -/
def diskFuseWrong : ChangeSpec := { name := "diskFuse", fn := fun _ => fun
  | [d1, d2, d3] => { results := [.lit (.bool false)], args := [d1, d2, d3] }
  | _ => none }
def DiskFuseWrongFalsely : Prop := diskFuseRow.holds Try.pinned (OpenSpec.ofChange diskFuseWrong)

/-- 'snafflelaw03.DiskLasts': WHATEVER THE INPUT: true; the input reads as it did. -/
def diskLastsSpec : ChangeSpec := { name := "diskLasts", fn := fun _ => fun
  | [d1, d2, d3, d4] => { results := [.lit (.bool true)], args := [d1, d2, d3, d4] }
  | _ => none }
def diskLastsRow : OpenClaim := { program := "ytbcffodjbbcdhaa", sum := "7d99d6b38f9806eba543201a3ad62bdd8ce990018016df530f9ad968e270787f", func := "snaffle/snafflelaw03.DiskLasts", spec := "diskLasts", inPlace := ["internal/bytealg.abigen_runtime_cmpstring", "slices.overlaps[snaffle/api.File]"], unfollowed := true, recurses := true, apart := false }
def DiskLastsSaid : Prop := diskLastsRow.holds Try.pinned (OpenSpec.ofChange diskLastsSpec)

/-- ITS FALSE NEIGHBOUR: 'it returns false'. Refute it at one input. -/
def diskLastsWrong : ChangeSpec := { name := "diskLasts", fn := fun _ => fun
  | [d1, d2, d3, d4] => { results := [.lit (.bool false)], args := [d1, d2, d3, d4] }
  | _ => none }
def DiskLastsWrongFalsely : Prop := diskLastsRow.holds Try.pinned (OpenSpec.ofChange diskLastsWrong)

/-- 'snafflelaw14.SlotRight': WHATEVER THE INPUT: true; the input reads as it did. -/
def slotRightSpec : ChangeSpec := { name := "slotRight", fn := fun _ => fun
  | [d1, d2, d3] => { results := [.lit (.bool true)], args := [d1, d2, d3] }
  | _ => none }
def slotRightRow : OpenClaim := { program := "ytbcffodjbbcdhaa", sum := "7d99d6b38f9806eba543201a3ad62bdd8ce990018016df530f9ad968e270787f", func := "snaffle/snafflelaw14.SlotRight", spec := "slotRight", inPlace := ["internal/bytealg.abigen_runtime_cmpstring", "slices.overlaps[snaffle/api.File]"], unfollowed := true, recurses := true, apart := false }
def SlotRightSaid : Prop := slotRightRow.holds Try.pinned (OpenSpec.ofChange slotRightSpec)

/-- ITS FALSE NEIGHBOUR: 'it returns false'. Refute it at one input. -/
def slotRightWrong : ChangeSpec := { name := "slotRight", fn := fun _ => fun
  | [d1, d2, d3] => { results := [.lit (.bool false)], args := [d1, d2, d3] }
  | _ => none }
def SlotRightWrongFalsely : Prop := slotRightRow.holds Try.pinned (OpenSpec.ofChange slotRightWrong)

/-- 'snafflelaw14.SlotKeeps': WHATEVER THE INPUT: true; the input reads as it did. -/
def slotKeepsSpec : ChangeSpec := { name := "slotKeeps", fn := fun _ => fun
  | [d1, d2, d3, d4] => { results := [.lit (.bool true)], args := [d1, d2, d3, d4] }
  | _ => none }
def slotKeepsRow : OpenClaim := { program := "ytbcffodjbbcdhaa", sum := "7d99d6b38f9806eba543201a3ad62bdd8ce990018016df530f9ad968e270787f", func := "snaffle/snafflelaw14.SlotKeeps", spec := "slotKeeps", inPlace := ["internal/bytealg.abigen_runtime_cmpstring", "slices.overlaps[snaffle/api.File]"], unfollowed := true, recurses := true, apart := false }
def SlotKeepsSaid : Prop := slotKeepsRow.holds Try.pinned (OpenSpec.ofChange slotKeepsSpec)

/-- ITS FALSE NEIGHBOUR: 'it returns false'. Refute it at one input. -/
def slotKeepsWrong : ChangeSpec := { name := "slotKeeps", fn := fun _ => fun
  | [d1, d2, d3, d4] => { results := [.lit (.bool false)], args := [d1, d2, d3, d4] }
  | _ => none }
def SlotKeepsWrongFalsely : Prop := slotKeepsRow.holds Try.pinned (OpenSpec.ofChange slotKeepsWrong)

/-- 'snafflelaw14.SlotRow': WHATEVER THE INPUT: true; the input reads as it did. -/
def slotRowSpec : ChangeSpec := { name := "slotRow", fn := fun _ => fun
  | [d1, d2] => { results := [.lit (.bool true)], args := [d1, d2] }
  | _ => none }
def slotRowRow : OpenClaim := { program := "ytbcffodjbbcdhaa", sum := "7d99d6b38f9806eba543201a3ad62bdd8ce990018016df530f9ad968e270787f", func := "snaffle/snafflelaw14.SlotRow", spec := "slotRow", inPlace := ["internal/bytealg.abigen_runtime_cmpstring", "slices.overlaps[snaffle/api.File]"], unfollowed := true, recurses := true, apart := false }
def SlotRowSaid : Prop := slotRowRow.holds Try.pinned (OpenSpec.ofChange slotRowSpec)

/-- ITS FALSE NEIGHBOUR: 'it returns false'. Refute it at one input. -/
def slotRowWrong : ChangeSpec := { name := "slotRow", fn := fun _ => fun
  | [d1, d2] => { results := [.lit (.bool false)], args := [d1, d2] }
  | _ => none }
def SlotRowWrongFalsely : Prop := slotRowRow.holds Try.pinned (OpenSpec.ofChange slotRowWrong)

/- THE SECOND FORM. 'bulk': how many values and letters a reading holds, each counted each time it is reached (what is shared counts as often as it is met; a slice's spare places count too). A statement '..UptoSaid' is the law's where the arguments, and the package variables that the reading takes, are together of bulk at most 1048576: NARROWER than '..Said'. Prove '..Said' where nothing that the law and all that it calls make is longer than what came in: it says more and counts as full. Else prove '..UptoSaid'. A law counts once. -/
mutual
def uptoBulk {H : Type} : DataW H → Nat
  | .lit (.string bytes) => bytes.length + 1
  | .lit _ => 1
  | .nil => 1
  | .ptr d => uptoBulk d + 1
  | .slice elems spare => uptoBulkAll elems + uptoBulkAll spare + 1
  | .agg parts => uptoBulkAll parts + 1
  | .iface _ d => uptoBulk d + 1
  | .map entries => uptoBulkEntries entries + 1
  | .held _ => 1
def uptoBulkAll {H : Type} : List (DataW H) → Nat
  | [] => 0
  | d :: r => uptoBulk d + uptoBulkAll r
def uptoBulkEntries {H : Type} : List (Lit × DataW H) → Nat
  | [] => 0
  | x :: r => uptoBulkEntry x + uptoBulkEntries r
def uptoBulkEntry {H : Type} : Lit × DataW H → Nat
  | (.string bytes, d) => bytes.length + uptoBulk d + 1
  | (_, d) => uptoBulk d + 1
 end
def uptoSmall : (H : Type) → List (DataW H) → Bool := fun _ ds => decide (uptoBulkAll ds ≤ 1048576)
def OpenSpec.upto (s : _root_.Go.ChangeSpec) : _root_.Go.OpenSpec := { _root_.Go.OpenSpec.ofChange s with cond := some uptoSmall }

/-- 'snafflelaw03.DiskBack', WHERE WHAT IT READS IS OF BULK AT MOST 1048576: true; the input reads as it did. -/
def diskBackUptoRow : OpenClaim := { program := "ytbcffodjbbcdhaa", sum := "7d99d6b38f9806eba543201a3ad62bdd8ce990018016df530f9ad968e270787f", func := "snaffle/snafflelaw03.DiskBack", spec := "diskBack", inPlace := ["internal/bytealg.abigen_runtime_cmpstring", "slices.overlaps[snaffle/api.File]"], unfollowed := true, recurses := true, apart := false, narrowed := true }
def DiskBackUptoSaid : Prop := diskBackUptoRow.holds Try.pinned (OpenSpec.upto diskBackSpec)

/-- 'snafflelaw03.DiskJoins', WHERE WHAT IT READS IS OF BULK AT MOST 1048576: true; the input reads as it did. -/
def diskJoinsUptoRow : OpenClaim := { program := "ytbcffodjbbcdhaa", sum := "7d99d6b38f9806eba543201a3ad62bdd8ce990018016df530f9ad968e270787f", func := "snaffle/snafflelaw03.DiskJoins", spec := "diskJoins", inPlace := ["internal/bytealg.abigen_runtime_cmpstring", "slices.overlaps[snaffle/api.File]"], unfollowed := true, recurses := true, apart := false, narrowed := true }
def DiskJoinsUptoSaid : Prop := diskJoinsUptoRow.holds Try.pinned (OpenSpec.upto diskJoinsSpec)

/-- 'snafflelaw03.DiskRight', WHERE WHAT IT READS IS OF BULK AT MOST 1048576: true; the input reads as it did. -/
def diskRightUptoRow : OpenClaim := { program := "ytbcffodjbbcdhaa", sum := "7d99d6b38f9806eba543201a3ad62bdd8ce990018016df530f9ad968e270787f", func := "snaffle/snafflelaw03.DiskRight", spec := "diskRight", inPlace := ["internal/bytealg.abigen_runtime_cmpstring", "slices.overlaps[snaffle/api.File]"], unfollowed := true, recurses := true, apart := false, narrowed := true }
def DiskRightUptoSaid : Prop := diskRightUptoRow.holds Try.pinned (OpenSpec.upto diskRightSpec)

/-- 'snafflelaw03.DiskFuse', WHERE WHAT IT READS IS OF BULK AT MOST 1048576: true; the input reads as it did. -/
def diskFuseUptoRow : OpenClaim := { program := "ytbcffodjbbcdhaa", sum := "7d99d6b38f9806eba543201a3ad62bdd8ce990018016df530f9ad968e270787f", func := "snaffle/snafflelaw03.DiskFuse", spec := "diskFuse", inPlace := ["internal/bytealg.abigen_runtime_cmpstring", "slices.overlaps[snaffle/api.File]"], unfollowed := true, recurses := true, apart := false, narrowed := true }
def DiskFuseUptoSaid : Prop := diskFuseUptoRow.holds Try.pinned (OpenSpec.upto diskFuseSpec)

/-- 'snafflelaw03.DiskLasts', WHERE WHAT IT READS IS OF BULK AT MOST 1048576: true; the input reads as it did. -/
def diskLastsUptoRow : OpenClaim := { program := "ytbcffodjbbcdhaa", sum := "7d99d6b38f9806eba543201a3ad62bdd8ce990018016df530f9ad968e270787f", func := "snaffle/snafflelaw03.DiskLasts", spec := "diskLasts", inPlace := ["internal/bytealg.abigen_runtime_cmpstring", "slices.overlaps[snaffle/api.File]"], unfollowed := true, recurses := true, apart := false, narrowed := true }
def DiskLastsUptoSaid : Prop := diskLastsUptoRow.holds Try.pinned (OpenSpec.upto diskLastsSpec)

/-- 'snafflelaw14.SlotRight', WHERE WHAT IT READS IS OF BULK AT MOST 1048576: true; the input reads as it did. -/
def slotRightUptoRow : OpenClaim := { program := "ytbcffodjbbcdhaa", sum := "7d99d6b38f9806eba543201a3ad62bdd8ce990018016df530f9ad968e270787f", func := "snaffle/snafflelaw14.SlotRight", spec := "slotRight", inPlace := ["internal/bytealg.abigen_runtime_cmpstring", "slices.overlaps[snaffle/api.File]"], unfollowed := true, recurses := true, apart := false, narrowed := true }
def SlotRightUptoSaid : Prop := slotRightUptoRow.holds Try.pinned (OpenSpec.upto slotRightSpec)

/-- 'snafflelaw14.SlotKeeps', WHERE WHAT IT READS IS OF BULK AT MOST 1048576: true; the input reads as it did. -/
def slotKeepsUptoRow : OpenClaim := { program := "ytbcffodjbbcdhaa", sum := "7d99d6b38f9806eba543201a3ad62bdd8ce990018016df530f9ad968e270787f", func := "snaffle/snafflelaw14.SlotKeeps", spec := "slotKeeps", inPlace := ["internal/bytealg.abigen_runtime_cmpstring", "slices.overlaps[snaffle/api.File]"], unfollowed := true, recurses := true, apart := false, narrowed := true }
def SlotKeepsUptoSaid : Prop := slotKeepsUptoRow.holds Try.pinned (OpenSpec.upto slotKeepsSpec)

/-- 'snafflelaw14.SlotRow', WHERE WHAT IT READS IS OF BULK AT MOST 1048576: true; the input reads as it did. -/
def slotRowUptoRow : OpenClaim := { program := "ytbcffodjbbcdhaa", sum := "7d99d6b38f9806eba543201a3ad62bdd8ce990018016df530f9ad968e270787f", func := "snaffle/snafflelaw14.SlotRow", spec := "slotRow", inPlace := ["internal/bytealg.abigen_runtime_cmpstring", "slices.overlaps[snaffle/api.File]"], unfollowed := true, recurses := true, apart := false, narrowed := true }
def SlotRowUptoSaid : Prop := slotRowUptoRow.holds Try.pinned (OpenSpec.upto slotRowSpec)

end Rows
end Go.Proofs.Ytbcffodjbbcdhaa
