/- Lemmas for the card. -/
import Derived.Test.YtfkepgkmobgleaaGreatDoorRows
import Derived.KernelRfl
import Derived.JoinedOf
namespace Go.Proofs.YtfkepgkmobgleaaGreatDoor
open Go
theorem jLaid:laidOutB Tryz.prog=true:=by kernel_rfl
theorem jMaps:mapsRowed Tryz.prog=true:=by kernel_rfl
end Go.Proofs.YtfkepgkmobgleaaGreatDoor
