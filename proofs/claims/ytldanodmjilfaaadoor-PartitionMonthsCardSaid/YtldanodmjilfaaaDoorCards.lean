/-
  DERIVED. GIVEN WITH THE SEED: THE CARDS: each row of YtldanodmjilfaaaDoorRows.lean that lists a variable, with what it lists TIED to the program's text (the seventh form; the later family's looks); each row that meets fmt, with fmt's text TOLD by the authors' own Lean function (tested against real Go, not proved from fmt's source: count such statements apart). THE CARD IS WHAT COUNTS. Prove the row's statement (the work); the ties are given (YtldanodmjilfaaaDoorTie.lean); close each card by the builder's one call (the guide's Derived/Test/ToyasCard.lean, 'card_holds'). Laid BY PROGRAM, IN A SANDBOX (cutbox-door.mjs). By AI agents, Wed Nov 11 2026. No macro, syntax, notation, axiom, sorry.
-/
import Derived.Test.YtldanodmjilfaaaDoorRows
import GoSem.ClaimSeven
namespace Go.Proofs.YtldanodmjilfaaaDoor
namespace Rows

/-- THE TIED CARD OF 'fenlandlaw13.PartitionMonths'. -/
def partitionMonthsCard : Claim7 := { stood := { row := partitionMonthsRow, standIns := [], harness := (true, "a5eb26b34c06f365ba2dd096b209fdae7ef295dcf1ca8c5846f08d7b1041f731"), looks := false }, kinds := [], alts := [], laidByText := true, laidKinds := [.data], laidTests := true, laidLooks := .later }
def PartitionMonthsCardSaid : Prop := Claim7.holds Tryd.pinned (.plain (OpenSpec.ofChange partitionMonthsSpec)) partitionMonthsCard

/-- THE SECOND FORM's CARD OF 'fenlandlaw13.PartitionMonths'. -/
def partitionMonthsUptoCard : Claim7 := { stood := { row := partitionMonthsUptoRow, standIns := [], harness := (true, "a5eb26b34c06f365ba2dd096b209fdae7ef295dcf1ca8c5846f08d7b1041f731"), looks := false }, kinds := [], alts := [], laidByText := true, laidKinds := [.data], laidTests := true, laidLooks := .later }
def PartitionMonthsUptoCardSaid : Prop := Claim7.holds Tryd.pinned (.plain (OpenSpec.upto partitionMonthsSpec)) partitionMonthsUptoCard
end Rows
end Go.Proofs.YtldanodmjilfaaaDoor
