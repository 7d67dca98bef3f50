/- Lemmas for the card. -/
import Derived.Test.YtfkepgkmobgleaaGreatDoorRows
import Derived.KernelRfl
import Derived.JoinedOf
namespace Go.Proofs.YtfkepgkmobgleaaGreatDoor
open Go
theorem jRe:(Rows.topAggregatesRow.recurses==Tryz.prog.recurses 3)=true:=by kernel_rfl
end Go.Proofs.YtfkepgkmobgleaaGreatDoor
