/-
  DERIVED. GIVEN WITH THE SEED: THE CARDS: each row of YtganbdbpkoggmaaDoorRows.lean that lists a variable, with what it lists TIED to the program's text (the seventh form; the later family's looks); each row that meets fmt, with fmt's text TOLD by the authors' own Lean function (tested against real Go, not proved from fmt's source: count such statements apart). THE CARD IS WHAT COUNTS. Prove the row's statement (the work); the ties are given (YtganbdbpkoggmaaDoorTie.lean); close each card by the builder's one call (the guide's Derived/Test/ToyasCard.lean, 'card_holds'). Laid BY PROGRAM, IN A SANDBOX (cutbox-door.mjs). By AI agents, Wed Nov 11 2026. No macro, syntax, notation, axiom, sorry.
-/
import Derived.Test.YtganbdbpkoggmaaDoorRows
import GoSem.ClaimSeven
namespace Go.Proofs.YtganbdbpkoggmaaDoor
namespace Rows

/-- THE TIED CARD OF 'snafflelaw12.WalParts'. -/
def walPartsCard : Claim7 := { stood := { row := walPartsRow, standIns := [], harness := (true, "4b4693dc19b2efd1d8c6f085c70c981e4610008ba8daa5cf682de1c8cdd95746"), looks := false }, kinds := [], alts := [], laidByText := true, laidKinds := [.data, .data, .data], laidTests := true, laidLooks := .later }
def WalPartsCardSaid : Prop := Claim7.holds Tryd.pinned (.plain (OpenSpec.ofChange walPartsSpec)) walPartsCard

/-- THE TIED CARD OF 'snafflelaw12.WalLasts'. -/
def walLastsCard : Claim7 := { stood := { row := walLastsRow, standIns := [], harness := (true, "4b4693dc19b2efd1d8c6f085c70c981e4610008ba8daa5cf682de1c8cdd95746"), looks := false }, kinds := [], alts := [], laidByText := true, laidKinds := [.data, .data, .data], laidTests := true, laidLooks := .later }
def WalLastsCardSaid : Prop := Claim7.holds Tryd.pinned (.plain (OpenSpec.ofChange walLastsSpec)) walLastsCard

/-- THE SECOND FORM's CARD OF 'snafflelaw12.WalParts'. -/
def walPartsUptoCard : Claim7 := { stood := { row := walPartsUptoRow, standIns := [], harness := (true, "4b4693dc19b2efd1d8c6f085c70c981e4610008ba8daa5cf682de1c8cdd95746"), looks := false }, kinds := [], alts := [], laidByText := true, laidKinds := [.data, .data, .data], laidTests := true, laidLooks := .later }
def WalPartsUptoCardSaid : Prop := Claim7.holds Tryd.pinned (.plain (OpenSpec.upto walPartsSpec)) walPartsUptoCard

/-- THE SECOND FORM's CARD OF 'snafflelaw12.WalLasts'. -/
def walLastsUptoCard : Claim7 := { stood := { row := walLastsUptoRow, standIns := [], harness := (true, "4b4693dc19b2efd1d8c6f085c70c981e4610008ba8daa5cf682de1c8cdd95746"), looks := false }, kinds := [], alts := [], laidByText := true, laidKinds := [.data, .data, .data], laidTests := true, laidLooks := .later }
def WalLastsUptoCardSaid : Prop := Claim7.holds Tryd.pinned (.plain (OpenSpec.upto walLastsSpec)) walLastsUptoCard
end Rows
end Go.Proofs.YtganbdbpkoggmaaDoor
