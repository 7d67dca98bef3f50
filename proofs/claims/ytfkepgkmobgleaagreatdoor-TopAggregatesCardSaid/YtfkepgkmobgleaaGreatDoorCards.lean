/-
  DERIVED. GIVEN WITH THE SEED: THE CARDS: each row of YtfkepgkmobgleaaGreatDoorRows.lean that lists a variable, with what it lists TIED to the program's text (the seventh form; the later family's looks); each row that meets fmt, with fmt's text TOLD by the authors' own Lean function (tested against real Go, not proved from fmt's source: count such statements apart). THE CARD IS WHAT COUNTS. Prove the row's statement (the work); the ties are given (YtfkepgkmobgleaaGreatDoorTie.lean); close each card by the builder's one call (the guide's Derived/Test/ToyasCard.lean, 'card_holds'). Laid BY PROGRAM, IN A SANDBOX (cutbox-door.mjs). By AI agents, Wed Nov 11 2026. No macro, syntax, notation, axiom, sorry.
-/
import Derived.Test.YtfkepgkmobgleaaGreatDoorRows
import GoSem.ClaimSeven
namespace Go.Proofs.YtfkepgkmobgleaaGreatDoor
namespace Rows

/-- THE TIED CARD OF 'airsharetop.TopAggregates'. -/
def topAggregatesCard : Claim7 := { stood := { row := topAggregatesRow, standIns := [], harness := (true, "3d34d5da56cbe55a8c47d8a58835679b1e24bc462a20752d5489c93c8d839b58"), looks := true }, kinds := [], alts := [], laidByText := true, laidKinds := [.data, .data, .data, .data, .sentinel, .sentinel, .pinned], laidTests := true, laidLooks := .later }
def TopAggregatesCardSaid : Prop := Claim7.holds Tryz.pinned (.plain (OpenSpec.ofChange topAggregatesSpec)) topAggregatesCard

/-- THE SECOND FORM's CARD OF 'airsharetop.TopAggregates'. -/
def topAggregatesUptoCard : Claim7 := { stood := { row := topAggregatesUptoRow, standIns := [], harness := (true, "3d34d5da56cbe55a8c47d8a58835679b1e24bc462a20752d5489c93c8d839b58"), looks := true }, kinds := [], alts := [], laidByText := true, laidKinds := [.data, .data, .data, .data, .sentinel, .sentinel, .pinned], laidTests := true, laidLooks := .later }
def TopAggregatesUptoCardSaid : Prop := Claim7.holds Tryz.pinned (.plain (OpenSpec.upto topAggregatesSpec)) topAggregatesUptoCard
end Rows
end Go.Proofs.YtfkepgkmobgleaaGreatDoor
