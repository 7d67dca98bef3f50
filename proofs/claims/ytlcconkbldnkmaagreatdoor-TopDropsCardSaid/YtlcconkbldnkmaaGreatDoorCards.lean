/-
  DERIVED. GIVEN WITH THE SEED: THE CARDS: each row of YtlcconkbldnkmaaGreatDoorRows.lean that lists a variable, with what it lists TIED to the program's text (the seventh form; the later family's looks); each row that meets fmt, with fmt's text TOLD by the authors' own Lean function (tested against real Go, not proved from fmt's source: count such statements apart). THE CARD IS WHAT COUNTS. Prove the row's statement (the work); the ties are given (YtlcconkbldnkmaaGreatDoorTie.lean); close each card by the builder's one call (the guide's Derived/Test/ToyasCard.lean, 'card_holds'). Laid BY PROGRAM, IN A SANDBOX (cutbox-door.mjs). By AI agents, Wed Nov 11 2026. No macro, syntax, notation, axiom, sorry.
-/
import Derived.Test.YtlcconkbldnkmaaGreatDoorRows
import GoSem.ClaimSeven
namespace Go.Proofs.YtlcconkbldnkmaaGreatDoor
namespace Rows

/-- THE TIED CARD OF 'airsharetop.TopDrops'. -/
def topDropsCard : Claim7 := { stood := { row := topDropsRow, standIns := [], harness := (true, "91558d8f940a09ce2aea746d883ce594234817b8f2f36a34c07d12fd577907f9"), looks := true }, kinds := [], alts := [], laidByText := true, laidKinds := [.data, .data, .data, .data, .sentinel, .sentinel, .pinned], laidTests := true, laidLooks := .later }
def TopDropsCardSaid : Prop := Claim7.holds Tryz.pinned (.plain (OpenSpec.ofChange topDropsSpec)) topDropsCard

/-- THE SECOND FORM's CARD OF 'airsharetop.TopDrops'. -/
def topDropsUptoCard : Claim7 := { stood := { row := topDropsUptoRow, standIns := [], harness := (true, "91558d8f940a09ce2aea746d883ce594234817b8f2f36a34c07d12fd577907f9"), looks := true }, kinds := [], alts := [], laidByText := true, laidKinds := [.data, .data, .data, .data, .sentinel, .sentinel, .pinned], laidTests := true, laidLooks := .later }
def TopDropsUptoCardSaid : Prop := Claim7.holds Tryz.pinned (.plain (OpenSpec.upto topDropsSpec)) topDropsUptoCard
end Rows
end Go.Proofs.YtlcconkbldnkmaaGreatDoor
