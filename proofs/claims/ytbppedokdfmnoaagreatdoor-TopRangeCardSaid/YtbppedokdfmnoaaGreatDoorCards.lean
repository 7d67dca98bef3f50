/-
  DERIVED. GIVEN WITH THE SEED: THE CARDS: each row of YtbppedokdfmnoaaGreatDoorRows.lean that lists a variable, with what it lists TIED to the program's text (the seventh form; the later family's looks); each row that meets fmt, with fmt's text TOLD by the authors' own Lean function (tested against real Go, not proved from fmt's source: count such statements apart). THE CARD IS WHAT COUNTS. Prove the row's statement (the work); the ties are given (YtbppedokdfmnoaaGreatDoorTie.lean); close each card by the builder's one call (the guide's Derived/Test/ToyasCard.lean, 'card_holds'). Laid BY PROGRAM, IN A SANDBOX (cutbox-door.mjs). By AI agents, Wed Nov 11 2026. No macro, syntax, notation, axiom, sorry.
-/
import Derived.Test.YtbppedokdfmnoaaGreatDoorRows
import GoSem.ClaimSeven
namespace Go.Proofs.YtbppedokdfmnoaaGreatDoor
namespace Rows

/-- THE TIED CARD OF 'airsharetop.TopRange'. -/
def topRangeCard : Claim7 := { stood := { row := topRangeRow, standIns := [], harness := (true, "222a8d8592937daaa04da779aeab454e5ee9d0f2f7493df1bd1543cf5087ba51"), looks := true }, kinds := [], alts := [], laidByText := true, laidKinds := [.data, .data, .data, .data, .sentinel, .sentinel, .pinned], laidTests := true, laidLooks := .later }
def TopRangeCardSaid : Prop := Claim7.holds Tryz.pinned (.plain (OpenSpec.ofChange topRangeSpec)) topRangeCard

/-- THE SECOND FORM's CARD OF 'airsharetop.TopRange'. -/
def topRangeUptoCard : Claim7 := { stood := { row := topRangeUptoRow, standIns := [], harness := (true, "222a8d8592937daaa04da779aeab454e5ee9d0f2f7493df1bd1543cf5087ba51"), looks := true }, kinds := [], alts := [], laidByText := true, laidKinds := [.data, .data, .data, .data, .sentinel, .sentinel, .pinned], laidTests := true, laidLooks := .later }
def TopRangeUptoCardSaid : Prop := Claim7.holds Tryz.pinned (.plain (OpenSpec.upto topRangeSpec)) topRangeUptoCard
end Rows
end Go.Proofs.YtbppedokdfmnoaaGreatDoor
