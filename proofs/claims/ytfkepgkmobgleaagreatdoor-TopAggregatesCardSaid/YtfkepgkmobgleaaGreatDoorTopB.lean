/- Lemmas for the card. -/
import Derived.Test.YtfkepgkmobgleaaGreatDoorRows
import Derived.KernelRfl
import Derived.JoinedOf
namespace Go.Proofs.YtfkepgkmobgleaaGreatDoor
open Go
theorem jUn:(Rows.topAggregatesRow.unfollowed==Tryz.prog.unfollowed 3)=true:=by kernel_rfl
end Go.Proofs.YtfkepgkmobgleaaGreatDoor
