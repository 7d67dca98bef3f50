/- Lemmas for the card. -/
import Derived.Test.YtfkepgkmobgleaaGreatDoorTopW
namespace Go.Proofs.YtfkepgkmobgleaaGreatDoor
open Go Go.ChangeShapes Go.WideShapes Go.ChangeAt Go.RowKit
set_option linter.unusedVariables false
set_option maxRecDepth 100000 in
theorem witness_row(os:Os){H:Type}(enc:TypeId×Value->H):
 (OpenSpec.ofChange Rows.topAggregatesSpec).preRow enc Tryz.prog Tryz.f3 Rows.topAggregatesRow.domain false Rows.topAggregatesRow.laid ((laidWorld os).forCall (fun _ _=>0) ⟨#[],#[.slice none 0 0],[]⟩).memory #[.slice none 0 0]:=
 OpenSpec.preRow_of_B rfl 8 (by kernel_rfl) (by kernel_rfl) (laid_met os _)
end Go.Proofs.YtfkepgkmobgleaaGreatDoor
