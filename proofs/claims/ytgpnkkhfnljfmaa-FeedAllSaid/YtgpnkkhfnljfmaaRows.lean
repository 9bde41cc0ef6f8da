/-
  No cell of these rows narrows 'for every input' (looked for: loops, veiled, ifaces, maps, wideKeys, modest, calm, conditions, laid).
  DERIVED. THE GIVEN ROWS OF THIS SEAT. 12 by the template 'for every input the law returns true; each argument reads behind the call as it read before'; 0 by the template 'total and deterministic' (their statements: YtgpnkkhfnljfmaaTotals.lean).
  GIVEN WITH THE SEED: the statements are not yours to turn. If you find one false, say at which input.
  Laid BY PROGRAM, IN A SANDBOX (cutbox-rows.mjs): the forced cells as the released guide's own fill.sh prints them over the translation 8c1cb7a759d99043… (all of the seat's roots in one cut). By AI agents, Wed Nov 11 2026. No macro, syntax, notation, axiom, sorry.
-/
import Derived.Test.YtgpnkkhfnljfmaaChecked
import GoSem.Claim
import GoSem.ClaimJoined
import GoSem.ClaimMapViews
import Derived.JoinedTies
import Derived.KernelRfl
namespace Go.Proofs.Ytgpnkkhfnljfmaa
/- THE CELL 'sum', in the pinned program and in every row, IS THE sha256 OF THE DUMP (.gsa) THAT YtgpnkkhfnljfmaaProg.lean LOADS. Nothing in Lean hashes anything: it is a label: what it is worth is what the hold of that sum in a sandbox is worth. -/
noncomputable def Try.pinned : Pinned := { name := "ytgpnkkhfnljfmaa", sum := "8c1cb7a759d99043878daf0ddcfde0a454b0532de989467d37518948e4e94f91", checked := Try.checked }
namespace Rows
def none {H : Type} : Left H := { results := [], args := [] }

/-- 'snafflelaw17.FeedRight': WHATEVER THE INPUT: true; the input reads as it did. -/
def feedRightSpec : ChangeSpec := { name := "feedRight", fn := fun _ => fun
  | [d1, d2, d3] => { results := [.lit (.bool true)], args := [d1, d2, d3] }
  | _ => none }
def feedRightRow : OpenClaim := { program := "ytgpnkkhfnljfmaa", sum := "8c1cb7a759d99043878daf0ddcfde0a454b0532de989467d37518948e4e94f91", func := "snaffle/snafflelaw17.FeedRight", spec := "feedRight", inPlace := ["slices.overlaps[snaffle/api.Note]"], unfollowed := true, recurses := true, apart := false }
def FeedRightSaid : Prop := feedRightRow.holds Try.pinned (OpenSpec.ofChange feedRightSpec)

/-- ITS FALSE NEIGHBOUR: 'it returns false'. Refute it at one input. -/
def feedRightWrong : ChangeSpec := { name := "feedRight", fn := fun _ => fun
  | [d1, d2, d3] => { results := [.lit (.bool false)], args := [d1, d2, d3] }
  | _ => none }
def FeedRightWrongFalsely : Prop := feedRightRow.holds Try.pinned (OpenSpec.ofChange feedRightWrong)

/-- 'snafflelaw17.FeedOrders': WHATEVER THE INPUT: true; the input reads as it did. -/
def feedOrdersSpec : ChangeSpec := { name := "feedOrders", fn := fun _ => fun
  | [d1, d2] => { results := [.lit (.bool true)], args := [d1, d2] }
  | _ => none }
def feedOrdersRow : OpenClaim := { program := "ytgpnkkhfnljfmaa", sum := "8c1cb7a759d99043878daf0ddcfde0a454b0532de989467d37518948e4e94f91", func := "snaffle/snafflelaw17.FeedOrders", spec := "feedOrders", inPlace := ["slices.overlaps[snaffle/api.Note]"], unfollowed := true, recurses := true, apart := false }
def FeedOrdersSaid : Prop := feedOrdersRow.holds Try.pinned (OpenSpec.ofChange feedOrdersSpec)

/-- ITS FALSE NEIGHBOUR: 'it returns false'. Refute it at one input. -/
def feedOrdersWrong : ChangeSpec := { name := "feedOrders", fn := fun _ => fun
  | [d1, d2] => { results := [.lit (.bool false)], args := [d1, d2] }
  | _ => none }
def FeedOrdersWrongFalsely : Prop := feedOrdersRow.holds Try.pinned (OpenSpec.ofChange feedOrdersWrong)

/-- 'snafflelaw17.FeedAll': WHATEVER THE INPUT: true; the input reads as it did. -/
def feedAllSpec : ChangeSpec := { name := "feedAll", fn := fun _ => fun
  | [d1, d2, d3] => { results := [.lit (.bool true)], args := [d1, d2, d3] }
  | _ => none }
def feedAllRow : OpenClaim := { program := "ytgpnkkhfnljfmaa", sum := "8c1cb7a759d99043878daf0ddcfde0a454b0532de989467d37518948e4e94f91", func := "snaffle/snafflelaw17.FeedAll", spec := "feedAll", inPlace := ["slices.overlaps[snaffle/api.Note]"], unfollowed := true, recurses := true, apart := false }
def FeedAllSaid : Prop := feedAllRow.holds Try.pinned (OpenSpec.ofChange feedAllSpec)

/-- ITS FALSE NEIGHBOUR: 'it returns false'. Refute it at one input. -/
def feedAllWrong : ChangeSpec := { name := "feedAll", fn := fun _ => fun
  | [d1, d2, d3] => { results := [.lit (.bool false)], args := [d1, d2, d3] }
  | _ => none }
def FeedAllWrongFalsely : Prop := feedAllRow.holds Try.pinned (OpenSpec.ofChange feedAllWrong)

/-- 'snafflelaw08.CellRight': WHATEVER THE INPUT: true; the input reads as it did. -/
def cellRightSpec : ChangeSpec := { name := "cellRight", fn := fun _ => fun
  | [d1, d2, d3, d4, d5, d6] => { results := [.lit (.bool true)], args := [d1, d2, d3, d4, d5, d6] }
  | _ => none }
def cellRightRow : OpenClaim := { program := "ytgpnkkhfnljfmaa", sum := "8c1cb7a759d99043878daf0ddcfde0a454b0532de989467d37518948e4e94f91", func := "snaffle/snafflelaw08.CellRight", spec := "cellRight", unfollowed := true, recurses := true, apart := false }
def CellRightSaid : Prop := cellRightRow.holds Try.pinned (OpenSpec.ofChange cellRightSpec)

/-- ITS FALSE NEIGHBOUR: 'it returns false'. Refute it at one input. -/
def cellRightWrong : ChangeSpec := { name := "cellRight", fn := fun _ => fun
  | [d1, d2, d3, d4, d5, d6] => { results := [.lit (.bool false)], args := [d1, d2, d3, d4, d5, d6] }
  | _ => none }
def CellRightWrongFalsely : Prop := cellRightRow.holds Try.pinned (OpenSpec.ofChange cellRightWrong)

/-- 'snafflelaw08.CellBack': WHATEVER THE INPUT: true; the input reads as it did. -/
def cellBackSpec : ChangeSpec := { name := "cellBack", fn := fun _ => fun
  | [d1, d2, d3] => { results := [.lit (.bool true)], args := [d1, d2, d3] }
  | _ => none }
def cellBackRow : OpenClaim := { program := "ytgpnkkhfnljfmaa", sum := "8c1cb7a759d99043878daf0ddcfde0a454b0532de989467d37518948e4e94f91", func := "snaffle/snafflelaw08.CellBack", spec := "cellBack", unfollowed := true, recurses := true, apart := false }
def CellBackSaid : Prop := cellBackRow.holds Try.pinned (OpenSpec.ofChange cellBackSpec)

/-- ITS FALSE NEIGHBOUR: 'it returns false'. Refute it at one input. -/
def cellBackWrong : ChangeSpec := { name := "cellBack", fn := fun _ => fun
  | [d1, d2, d3] => { results := [.lit (.bool false)], args := [d1, d2, d3] }
  | _ => none }
def CellBackWrongFalsely : Prop := cellBackRow.holds Try.pinned (OpenSpec.ofChange cellBackWrong)

/-- 'snafflelaw08.CellCovers': WHATEVER THE INPUT: true; the input reads as it did. -/
def cellCoversSpec : ChangeSpec := { name := "cellCovers", fn := fun _ => fun
  | [d1, d2, d3] => { results := [.lit (.bool true)], args := [d1, d2, d3] }
  | _ => none }
def cellCoversRow : OpenClaim := { program := "ytgpnkkhfnljfmaa", sum := "8c1cb7a759d99043878daf0ddcfde0a454b0532de989467d37518948e4e94f91", func := "snaffle/snafflelaw08.CellCovers", spec := "cellCovers", unfollowed := true, recurses := true, apart := false }
def CellCoversSaid : Prop := cellCoversRow.holds Try.pinned (OpenSpec.ofChange cellCoversSpec)

/-- ITS FALSE NEIGHBOUR: 'it returns false'. Refute it at one input. -/
def cellCoversWrong : ChangeSpec := { name := "cellCovers", fn := fun _ => fun
  | [d1, d2, d3] => { results := [.lit (.bool false)], args := [d1, d2, d3] }
  | _ => none }
def CellCoversWrongFalsely : Prop := cellCoversRow.holds Try.pinned (OpenSpec.ofChange cellCoversWrong)

/-- 'snafflelaw08.CellDone': WHATEVER THE INPUT: true; the input reads as it did. -/
def cellDoneSpec : ChangeSpec := { name := "cellDone", fn := fun _ => fun
  | [d1, d2, d3, d4] => { results := [.lit (.bool true)], args := [d1, d2, d3, d4] }
  | _ => none }
def cellDoneRow : OpenClaim := { program := "ytgpnkkhfnljfmaa", sum := "8c1cb7a759d99043878daf0ddcfde0a454b0532de989467d37518948e4e94f91", func := "snaffle/snafflelaw08.CellDone", spec := "cellDone", unfollowed := true, recurses := true, apart := false }
def CellDoneSaid : Prop := cellDoneRow.holds Try.pinned (OpenSpec.ofChange cellDoneSpec)

/-- ITS FALSE NEIGHBOUR: 'it returns false'. Refute it at one input. -/
def cellDoneWrong : ChangeSpec := { name := "cellDone", fn := fun _ => fun
  | [d1, d2, d3, d4] => { results := [.lit (.bool false)], args := [d1, d2, d3, d4] }
  | _ => none }
def CellDoneWrongFalsely : Prop := cellDoneRow.holds Try.pinned (OpenSpec.ofChange cellDoneWrong)

/-- 'snafflelaw07.OrderRight': WHATEVER THE INPUT: true; the input reads as it did. -/
def orderRightSpec : ChangeSpec := { name := "orderRight", fn := fun _ => fun
  | [d1, d2, d3, d4, d5] => { results := [.lit (.bool true)], args := [d1, d2, d3, d4, d5] }
  | _ => none }
def orderRightRow : OpenClaim := { program := "ytgpnkkhfnljfmaa", sum := "8c1cb7a759d99043878daf0ddcfde0a454b0532de989467d37518948e4e94f91", func := "snaffle/snafflelaw07.OrderRight", spec := "orderRight", apart := false }
def OrderRightSaid : Prop := orderRightRow.holds Try.pinned (OpenSpec.ofChange orderRightSpec)

/-- ITS FALSE NEIGHBOUR: 'it returns false'. Refute it at one input. -/
def orderRightWrong : ChangeSpec := { name := "orderRight", fn := fun _ => fun
  | [d1, d2, d3, d4, d5] => { results := [.lit (.bool false)], args := [d1, d2, d3, d4, d5] }
  | _ => none }
def OrderRightWrongFalsely : Prop := orderRightRow.holds Try.pinned (OpenSpec.ofChange orderRightWrong)

/-- 'snafflelaw07.OrderLess': WHATEVER THE INPUT: true; the input reads as it did. -/
def orderLessSpec : ChangeSpec := { name := "orderLess", fn := fun _ => fun
  | [d1, d2] => { results := [.lit (.bool true)], args := [d1, d2] }
  | _ => none }
def orderLessRow : OpenClaim := { program := "ytgpnkkhfnljfmaa", sum := "8c1cb7a759d99043878daf0ddcfde0a454b0532de989467d37518948e4e94f91", func := "snaffle/snafflelaw07.OrderLess", spec := "orderLess", apart := false }
def OrderLessSaid : Prop := orderLessRow.holds Try.pinned (OpenSpec.ofChange orderLessSpec)

/-- ITS FALSE NEIGHBOUR: 'it returns false'. Refute it at one input. -/
def orderLessWrong : ChangeSpec := { name := "orderLess", fn := fun _ => fun
  | [d1, d2] => { results := [.lit (.bool false)], args := [d1, d2] }
  | _ => none }
def OrderLessWrongFalsely : Prop := orderLessRow.holds Try.pinned (OpenSpec.ofChange orderLessWrong)

/-- 'snafflelaw07.OrderFills': WHATEVER THE INPUT: true; the input reads as it did. -/
def orderFillsSpec : ChangeSpec := { name := "orderFills", fn := fun _ => fun
  | [d1, d2, d3, d4] => { results := [.lit (.bool true)], args := [d1, d2, d3, d4] }
  | _ => none }
def orderFillsRow : OpenClaim := { program := "ytgpnkkhfnljfmaa", sum := "8c1cb7a759d99043878daf0ddcfde0a454b0532de989467d37518948e4e94f91", func := "snaffle/snafflelaw07.OrderFills", spec := "orderFills", apart := false }
def OrderFillsSaid : Prop := orderFillsRow.holds Try.pinned (OpenSpec.ofChange orderFillsSpec)

/-- ITS FALSE NEIGHBOUR: 'it returns false'. Refute it at one input. -/
def orderFillsWrong : ChangeSpec := { name := "orderFills", fn := fun _ => fun
  | [d1, d2, d3, d4] => { results := [.lit (.bool false)], args := [d1, d2, d3, d4] }
  | _ => none }
def OrderFillsWrongFalsely : Prop := orderFillsRow.holds Try.pinned (OpenSpec.ofChange orderFillsWrong)

/-- 'snafflelaw07.OrderAsks': WHATEVER THE INPUT: true; the input reads as it did. -/
def orderAsksSpec : ChangeSpec := { name := "orderAsks", fn := fun _ => fun
  | [d1, d2, d3, d4] => { results := [.lit (.bool true)], args := [d1, d2, d3, d4] }
  | _ => none }
def orderAsksRow : OpenClaim := { program := "ytgpnkkhfnljfmaa", sum := "8c1cb7a759d99043878daf0ddcfde0a454b0532de989467d37518948e4e94f91", func := "snaffle/snafflelaw07.OrderAsks", spec := "orderAsks", apart := false }
def OrderAsksSaid : Prop := orderAsksRow.holds Try.pinned (OpenSpec.ofChange orderAsksSpec)

/-- ITS FALSE NEIGHBOUR: 'it returns false'. Refute it at one input. -/
def orderAsksWrong : ChangeSpec := { name := "orderAsks", fn := fun _ => fun
  | [d1, d2, d3, d4] => { results := [.lit (.bool false)], args := [d1, d2, d3, d4] }
  | _ => none }
def OrderAsksWrongFalsely : Prop := orderAsksRow.holds Try.pinned (OpenSpec.ofChange orderAsksWrong)

/-- 'snafflelaw07.OrderBegins': WHATEVER THE INPUT: true; the input reads as it did. -/
def orderBeginsSpec : ChangeSpec := { name := "orderBegins", fn := fun _ => fun
  | [d] => { results := [.lit (.bool true)], args := [d] }
  | _ => none }
def orderBeginsRow : OpenClaim := { program := "ytgpnkkhfnljfmaa", sum := "8c1cb7a759d99043878daf0ddcfde0a454b0532de989467d37518948e4e94f91", func := "snaffle/snafflelaw07.OrderBegins", spec := "orderBegins", apart := false }
def OrderBeginsSaid : Prop := orderBeginsRow.holds Try.pinned (OpenSpec.ofChange orderBeginsSpec)

/-- ITS FALSE NEIGHBOUR: 'it returns false'. Refute it at one input. -/
def orderBeginsWrong : ChangeSpec := { name := "orderBegins", fn := fun _ => fun
  | [d] => { results := [.lit (.bool false)], args := [d] }
  | _ => none }
def OrderBeginsWrongFalsely : Prop := orderBeginsRow.holds Try.pinned (OpenSpec.ofChange orderBeginsWrong)

/- THE SECOND FORM. 'bulk': how many values and letters a reading holds, each counted each time it is reached (what is shared counts as often as it is met; a slice's spare places count too). A statement '..UptoSaid' is the law's where the arguments, and the package variables that the reading takes, are together of bulk at most 1048576: NARROWER than '..Said'. Prove '..Said' where nothing that the law and all that it calls make is longer than what came in: it says more and counts as full. Else prove '..UptoSaid'. A law counts once. -/
mutual
def uptoBulk {H : Type} : DataW H → Nat
  | .lit (.string bytes) => bytes.length + 1
  | .lit _ => 1
  | .nil => 1
  | .ptr d => uptoBulk d + 1
  | .slice elems spare => uptoBulkAll elems + uptoBulkAll spare + 1
  | .agg parts => uptoBulkAll parts + 1
  | .iface _ d => uptoBulk d + 1
  | .map entries => uptoBulkEntries entries + 1
  | .held _ => 1
def uptoBulkAll {H : Type} : List (DataW H) → Nat
  | [] => 0
  | d :: r => uptoBulk d + uptoBulkAll r
def uptoBulkEntries {H : Type} : List (Lit × DataW H) → Nat
  | [] => 0
  | x :: r => uptoBulkEntry x + uptoBulkEntries r
def uptoBulkEntry {H : Type} : Lit × DataW H → Nat
  | (.string bytes, d) => bytes.length + uptoBulk d + 1
  | (_, d) => uptoBulk d + 1
 end
def uptoSmall : (H : Type) → List (DataW H) → Bool := fun _ ds => decide (uptoBulkAll ds ≤ 1048576)
def OpenSpec.upto (s : _root_.Go.ChangeSpec) : _root_.Go.OpenSpec := { _root_.Go.OpenSpec.ofChange s with cond := some uptoSmall }

/-- 'snafflelaw17.FeedRight', WHERE WHAT IT READS IS OF BULK AT MOST 1048576: true; the input reads as it did. -/
def feedRightUptoRow : OpenClaim := { program := "ytgpnkkhfnljfmaa", sum := "8c1cb7a759d99043878daf0ddcfde0a454b0532de989467d37518948e4e94f91", func := "snaffle/snafflelaw17.FeedRight", spec := "feedRight", inPlace := ["slices.overlaps[snaffle/api.Note]"], unfollowed := true, recurses := true, apart := false, narrowed := true }
def FeedRightUptoSaid : Prop := feedRightUptoRow.holds Try.pinned (OpenSpec.upto feedRightSpec)

/-- 'snafflelaw17.FeedOrders', WHERE WHAT IT READS IS OF BULK AT MOST 1048576: true; the input reads as it did. -/
def feedOrdersUptoRow : OpenClaim := { program := "ytgpnkkhfnljfmaa", sum := "8c1cb7a759d99043878daf0ddcfde0a454b0532de989467d37518948e4e94f91", func := "snaffle/snafflelaw17.FeedOrders", spec := "feedOrders", inPlace := ["slices.overlaps[snaffle/api.Note]"], unfollowed := true, recurses := true, apart := false, narrowed := true }
def FeedOrdersUptoSaid : Prop := feedOrdersUptoRow.holds Try.pinned (OpenSpec.upto feedOrdersSpec)

/-- 'snafflelaw17.FeedAll', WHERE WHAT IT READS IS OF BULK AT MOST 1048576: true; the input reads as it did. -/
def feedAllUptoRow : OpenClaim := { program := "ytgpnkkhfnljfmaa", sum := "8c1cb7a759d99043878daf0ddcfde0a454b0532de989467d37518948e4e94f91", func := "snaffle/snafflelaw17.FeedAll", spec := "feedAll", inPlace := ["slices.overlaps[snaffle/api.Note]"], unfollowed := true, recurses := true, apart := false, narrowed := true }
def FeedAllUptoSaid : Prop := feedAllUptoRow.holds Try.pinned (OpenSpec.upto feedAllSpec)

/-- 'snafflelaw08.CellRight', WHERE WHAT IT READS IS OF BULK AT MOST 1048576: true; the input reads as it did. -/
def cellRightUptoRow : OpenClaim := { program := "ytgpnkkhfnljfmaa", sum := "8c1cb7a759d99043878daf0ddcfde0a454b0532de989467d37518948e4e94f91", func := "snaffle/snafflelaw08.CellRight", spec := "cellRight", unfollowed := true, recurses := true, apart := false, narrowed := true }
def CellRightUptoSaid : Prop := cellRightUptoRow.holds Try.pinned (OpenSpec.upto cellRightSpec)

/-- 'snafflelaw08.CellBack', WHERE WHAT IT READS IS OF BULK AT MOST 1048576: true; the input reads as it did. -/
def cellBackUptoRow : OpenClaim := { program := "ytgpnkkhfnljfmaa", sum := "8c1cb7a759d99043878daf0ddcfde0a454b0532de989467d37518948e4e94f91", func := "snaffle/snafflelaw08.CellBack", spec := "cellBack", unfollowed := true, recurses := true, apart := false, narrowed := true }
def CellBackUptoSaid : Prop := cellBackUptoRow.holds Try.pinned (OpenSpec.upto cellBackSpec)

/-- 'snafflelaw08.CellCovers', WHERE WHAT IT READS IS OF BULK AT MOST 1048576: true; the input reads as it did. -/
def cellCoversUptoRow : OpenClaim := { program := "ytgpnkkhfnljfmaa", sum := "8c1cb7a759d99043878daf0ddcfde0a454b0532de989467d37518948e4e94f91", func := "snaffle/snafflelaw08.CellCovers", spec := "cellCovers", unfollowed := true, recurses := true, apart := false, narrowed := true }
def CellCoversUptoSaid : Prop := cellCoversUptoRow.holds Try.pinned (OpenSpec.upto cellCoversSpec)

/-- 'snafflelaw08.CellDone', WHERE WHAT IT READS IS OF BULK AT MOST 1048576: true; the input reads as it did. -/
def cellDoneUptoRow : OpenClaim := { program := "ytgpnkkhfnljfmaa", sum := "8c1cb7a759d99043878daf0ddcfde0a454b0532de989467d37518948e4e94f91", func := "snaffle/snafflelaw08.CellDone", spec := "cellDone", unfollowed := true, recurses := true, apart := false, narrowed := true }
def CellDoneUptoSaid : Prop := cellDoneUptoRow.holds Try.pinned (OpenSpec.upto cellDoneSpec)

/-- 'snafflelaw07.OrderRight', WHERE WHAT IT READS IS OF BULK AT MOST 1048576: true; the input reads as it did. -/
def orderRightUptoRow : OpenClaim := { program := "ytgpnkkhfnljfmaa", sum := "8c1cb7a759d99043878daf0ddcfde0a454b0532de989467d37518948e4e94f91", func := "snaffle/snafflelaw07.OrderRight", spec := "orderRight", apart := false, narrowed := true }
def OrderRightUptoSaid : Prop := orderRightUptoRow.holds Try.pinned (OpenSpec.upto orderRightSpec)

/-- 'snafflelaw07.OrderLess', WHERE WHAT IT READS IS OF BULK AT MOST 1048576: true; the input reads as it did. -/
def orderLessUptoRow : OpenClaim := { program := "ytgpnkkhfnljfmaa", sum := "8c1cb7a759d99043878daf0ddcfde0a454b0532de989467d37518948e4e94f91", func := "snaffle/snafflelaw07.OrderLess", spec := "orderLess", apart := false, narrowed := true }
def OrderLessUptoSaid : Prop := orderLessUptoRow.holds Try.pinned (OpenSpec.upto orderLessSpec)

/-- 'snafflelaw07.OrderFills', WHERE WHAT IT READS IS OF BULK AT MOST 1048576: true; the input reads as it did. -/
def orderFillsUptoRow : OpenClaim := { program := "ytgpnkkhfnljfmaa", sum := "8c1cb7a759d99043878daf0ddcfde0a454b0532de989467d37518948e4e94f91", func := "snaffle/snafflelaw07.OrderFills", spec := "orderFills", apart := false, narrowed := true }
def OrderFillsUptoSaid : Prop := orderFillsUptoRow.holds Try.pinned (OpenSpec.upto orderFillsSpec)

/-- 'snafflelaw07.OrderAsks', WHERE WHAT IT READS IS OF BULK AT MOST 1048576: true; the input reads as it did. -/
def orderAsksUptoRow : OpenClaim := { program := "ytgpnkkhfnljfmaa", sum := "8c1cb7a759d99043878daf0ddcfde0a454b0532de989467d37518948e4e94f91", func := "snaffle/snafflelaw07.OrderAsks", spec := "orderAsks", apart := false, narrowed := true }
def OrderAsksUptoSaid : Prop := orderAsksUptoRow.holds Try.pinned (OpenSpec.upto orderAsksSpec)

/-- 'snafflelaw07.OrderBegins', WHERE WHAT IT READS IS OF BULK AT MOST 1048576: true; the input reads as it did. -/
def orderBeginsUptoRow : OpenClaim := { program := "ytgpnkkhfnljfmaa", sum := "8c1cb7a759d99043878daf0ddcfde0a454b0532de989467d37518948e4e94f91", func := "snaffle/snafflelaw07.OrderBegins", spec := "orderBegins", apart := false, narrowed := true }
def OrderBeginsUptoSaid : Prop := orderBeginsUptoRow.holds Try.pinned (OpenSpec.upto orderBeginsSpec)

end Rows
end Go.Proofs.Ytgpnkkhfnljfmaa
