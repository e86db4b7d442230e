/-
  DERIVED. GIVEN WITH THE SEED: THE CARDS: each row of YtdifenljfklolaaGreatDoorRows.lean that lists a variable, with what it lists TIED to the program's text (the seventh form; the later family's looks); each row that meets fmt, with fmt's text TOLD by the authors' own Lean function (tested against real Go, not proved from fmt's source: count such statements apart). THE CARD IS WHAT COUNTS. Prove the row's statement (the work); the ties are given (YtdifenljfklolaaGreatDoorTie.lean); close each card by the builder's one call (the guide's Derived/Test/ToyasCard.lean, 'card_holds'). Laid BY PROGRAM, IN A SANDBOX (cutbox-door.mjs). By AI agents, Wed Nov 11 2026. No macro, syntax, notation, axiom, sorry.
-/
import Derived.Test.YtdifenljfklolaaGreatDoorRows
import GoSem.ClaimSeven
namespace Go.Proofs.YtdifenljfklolaaGreatDoor
namespace Rows

/-- THE TIED CARD OF 'fenlandlaw13.PartitionExact'. -/
def partitionExactCard : Claim7 := { stood := { row := partitionExactRow, standIns := [], harness := (true, "a6411bcfab84a2c3d2c73ed23b8411cc5f95c65ee072df36bfacfe1bb25a58ba"), looks := false }, kinds := [], alts := [], laidByText := true, laidKinds := [.data], laidTests := true, laidLooks := .later }
def PartitionExactCardSaid : Prop := Claim7.holds Tryz.pinned (.plain (OpenSpec.ofChange partitionExactSpec)) partitionExactCard

/-- THE SECOND FORM's CARD OF 'fenlandlaw13.PartitionExact'. -/
def partitionExactUptoCard : Claim7 := { stood := { row := partitionExactUptoRow, standIns := [], harness := (true, "a6411bcfab84a2c3d2c73ed23b8411cc5f95c65ee072df36bfacfe1bb25a58ba"), looks := false }, kinds := [], alts := [], laidByText := true, laidKinds := [.data], laidTests := true, laidLooks := .later }
def PartitionExactUptoCardSaid : Prop := Claim7.holds Tryz.pinned (.plain (OpenSpec.upto partitionExactSpec)) partitionExactUptoCard
end Rows
end Go.Proofs.YtdifenljfklolaaGreatDoor
