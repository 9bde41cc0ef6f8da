/-
  No cell of these rows narrows 'for every input' (looked for: loops, veiled, ifaces, maps, wideKeys, modest, calm, conditions, laid).
  DERIVED. THE GIVEN ROWS OF THIS SEAT. 3 by the template 'for every input the law returns true; each argument reads behind the call as it read before'; 0 by the template 'total and deterministic' (their statements: YtfmbbknpnokijaaTotals.lean).
  GIVEN WITH THE SEED: the statements are not yours to turn. If you find one false, say at which input.
  Laid BY PROGRAM, IN A SANDBOX (cutbox-rows.mjs): the forced cells as the released guide's own fill.sh prints them over the translation d6d545adf1b044e3… (all of the seat's roots in one cut). By AI agents, Wed Nov 11 2026. No macro, syntax, notation, axiom, sorry.
-/
import Derived.Test.YtfmbbknpnokijaaChecked
import GoSem.Claim
import GoSem.ClaimJoined
import GoSem.ClaimMapViews
import Derived.JoinedTies
import Derived.KernelRfl
namespace Go.Proofs.Ytfmbbknpnokijaa
/- THE CELL 'sum', in the pinned program and in every row, IS THE sha256 OF THE DUMP (.gsa) THAT YtfmbbknpnokijaaProg.lean LOADS. Nothing in Lean hashes anything: it is a label: what it is worth is what the hold of that sum in a sandbox is worth. -/
noncomputable def Try.pinned : Pinned := { name := "ytfmbbknpnokijaa", sum := "d6d545adf1b044e3fcea86dd401acdbb362171bd359ed3f5dfd922e2542b0bbf", checked := Try.checked }
namespace Rows
def none {H : Type} : Left H := { results := [], args := [] }

/-- 'snafflelaw16.VenueRight': WHATEVER THE INPUT: true; the input reads as it did. -/
def venueRightSpec : ChangeSpec := { name := "venueRight", fn := fun _ => fun
  | [d1, d2, d3, d4, d5] => { results := [.lit (.bool true)], args := [d1, d2, d3, d4, d5] }
  | _ => none }
def venueRightRow : OpenClaim := { program := "ytfmbbknpnokijaa", sum := "d6d545adf1b044e3fcea86dd401acdbb362171bd359ed3f5dfd922e2542b0bbf", func := "snaffle/snafflelaw16.VenueRight", spec := "venueRight", inPlace := ["slices.overlaps[snaffle/api.Order]"], unfollowed := true, recurses := true, apart := false }
def VenueRightSaid : Prop := venueRightRow.holds Try.pinned (OpenSpec.ofChange venueRightSpec)

/-- ITS FALSE NEIGHBOUR: 'it returns false'. Refute it at one input. -/
def venueRightWrong : ChangeSpec := { name := "venueRight", fn := fun _ => fun
  | [d1, d2, d3, d4, d5] => { results := [.lit (.bool false)], args := [d1, d2, d3, d4, d5] }
  | _ => none }
def VenueRightWrongFalsely : Prop := venueRightRow.holds Try.pinned (OpenSpec.ofChange venueRightWrong)

/-- 'snafflelaw16.VenueFilled': WHATEVER THE INPUT: true; the input reads as it did. -/
def venueFilledSpec : ChangeSpec := { name := "venueFilled", fn := fun _ => fun
  | [d] => { results := [.lit (.bool true)], args := [d] }
  | _ => none }
def venueFilledRow : OpenClaim := { program := "ytfmbbknpnokijaa", sum := "d6d545adf1b044e3fcea86dd401acdbb362171bd359ed3f5dfd922e2542b0bbf", func := "snaffle/snafflelaw16.VenueFilled", spec := "venueFilled", inPlace := ["slices.overlaps[snaffle/api.Order]"], unfollowed := true, recurses := true, apart := false }
def VenueFilledSaid : Prop := venueFilledRow.holds Try.pinned (OpenSpec.ofChange venueFilledSpec)

/-- ITS FALSE NEIGHBOUR: 'it returns false'. Refute it at one input. -/
def venueFilledWrong : ChangeSpec := { name := "venueFilled", fn := fun _ => fun
  | [d] => { results := [.lit (.bool false)], args := [d] }
  | _ => none }
def VenueFilledWrongFalsely : Prop := venueFilledRow.holds Try.pinned (OpenSpec.ofChange venueFilledWrong)

/-- 'snafflelaw16.VenueFollows': WHATEVER THE INPUT: true; the input reads as it did. -/
def venueFollowsSpec : ChangeSpec := { name := "venueFollows", fn := fun _ => fun
  | [d1, d2, d3] => { results := [.lit (.bool true)], args := [d1, d2, d3] }
  | _ => none }
def venueFollowsRow : OpenClaim := { program := "ytfmbbknpnokijaa", sum := "d6d545adf1b044e3fcea86dd401acdbb362171bd359ed3f5dfd922e2542b0bbf", func := "snaffle/snafflelaw16.VenueFollows", spec := "venueFollows", inPlace := ["slices.overlaps[snaffle/api.Order]"], unfollowed := true, recurses := true, apart := false }
def VenueFollowsSaid : Prop := venueFollowsRow.holds Try.pinned (OpenSpec.ofChange venueFollowsSpec)

/-- ITS FALSE NEIGHBOUR: 'it returns false'. Refute it at one input. -/
def venueFollowsWrong : ChangeSpec := { name := "venueFollows", fn := fun _ => fun
  | [d1, d2, d3] => { results := [.lit (.bool false)], args := [d1, d2, d3] }
  | _ => none }
def VenueFollowsWrongFalsely : Prop := venueFollowsRow.holds Try.pinned (OpenSpec.ofChange venueFollowsWrong)

/- THE SECOND FORM. 'bulk': how many values and letters a reading holds, each counted each time it is reached (what is shared counts as often as it is met; a slice's spare places count too). A statement '..UptoSaid' is the law's where the arguments, and the package variables that the reading takes, are together of bulk at most 1048576: NARROWER than '..Said'. Prove '..Said' where nothing that the law and all that it calls make is longer than what came in: it says more and counts as full. Else prove '..UptoSaid'. A law counts once. -/
mutual
def uptoBulk {H : Type} : DataW H → Nat
  | .lit (.string bytes) => bytes.length + 1
  | .lit _ => 1
  | .nil => 1
  | .ptr d => uptoBulk d + 1
  | .slice elems spare => uptoBulkAll elems + uptoBulkAll spare + 1
  | .agg parts => uptoBulkAll parts + 1
  | .iface _ d => uptoBulk d + 1
  | .map entries => uptoBulkEntries entries + 1
  | .held _ => 1
def uptoBulkAll {H : Type} : List (DataW H) → Nat
  | [] => 0
  | d :: r => uptoBulk d + uptoBulkAll r
def uptoBulkEntries {H : Type} : List (Lit × DataW H) → Nat
  | [] => 0
  | x :: r => uptoBulkEntry x + uptoBulkEntries r
def uptoBulkEntry {H : Type} : Lit × DataW H → Nat
  | (.string bytes, d) => bytes.length + uptoBulk d + 1
  | (_, d) => uptoBulk d + 1
 end
def uptoSmall : (H : Type) → List (DataW H) → Bool := fun _ ds => decide (uptoBulkAll ds ≤ 1048576)
def OpenSpec.upto (s : _root_.Go.ChangeSpec) : _root_.Go.OpenSpec := { _root_.Go.OpenSpec.ofChange s with cond := some uptoSmall }

/-- 'snafflelaw16.VenueRight', WHERE WHAT IT READS IS OF BULK AT MOST 1048576: true; the input reads as it did. -/
def venueRightUptoRow : OpenClaim := { program := "ytfmbbknpnokijaa", sum := "d6d545adf1b044e3fcea86dd401acdbb362171bd359ed3f5dfd922e2542b0bbf", func := "snaffle/snafflelaw16.VenueRight", spec := "venueRight", inPlace := ["slices.overlaps[snaffle/api.Order]"], unfollowed := true, recurses := true, apart := false, narrowed := true }
def VenueRightUptoSaid : Prop := venueRightUptoRow.holds Try.pinned (OpenSpec.upto venueRightSpec)

/-- 'snafflelaw16.VenueFilled', WHERE WHAT IT READS IS OF BULK AT MOST 1048576: true; the input reads as it did. -/
def venueFilledUptoRow : OpenClaim := { program := "ytfmbbknpnokijaa", sum := "d6d545adf1b044e3fcea86dd401acdbb362171bd359ed3f5dfd922e2542b0bbf", func := "snaffle/snafflelaw16.VenueFilled", spec := "venueFilled", inPlace := ["slices.overlaps[snaffle/api.Order]"], unfollowed := true, recurses := true, apart := false, narrowed := true }
def VenueFilledUptoSaid : Prop := venueFilledUptoRow.holds Try.pinned (OpenSpec.upto venueFilledSpec)

/-- 'snafflelaw16.VenueFollows', WHERE WHAT IT READS IS OF BULK AT MOST 1048576: true; the input reads as it did. -/
def venueFollowsUptoRow : OpenClaim := { program := "ytfmbbknpnokijaa", sum := "d6d545adf1b044e3fcea86dd401acdbb362171bd359ed3f5dfd922e2542b0bbf", func := "snaffle/snafflelaw16.VenueFollows", spec := "venueFollows", inPlace := ["slices.overlaps[snaffle/api.Order]"], unfollowed := true, recurses := true, apart := false, narrowed := true }
def VenueFollowsUptoSaid : Prop := venueFollowsUptoRow.holds Try.pinned (OpenSpec.upto venueFollowsSpec)

end Rows
end Go.Proofs.Ytfmbbknpnokijaa
