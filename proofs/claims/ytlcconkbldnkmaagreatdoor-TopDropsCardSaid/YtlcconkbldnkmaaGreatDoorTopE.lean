/- Part of the executor and its soundness, or of what it is told of this seat's program. No statement of the seat is proved here. -/
import Derived.Test.YtlcconkbldnkmaaGreatDoorRows
import Derived.KernelRfl
import Derived.JoinedOf
/- A closed fact of the row. No statement of the seat is proved here. -/
namespace Go.Proofs.YtlcconkbldnkmaaGreatDoor
open Go
theorem jLaid : laidOutB Tryz.prog = true := by kernel_rfl
theorem jMaps : mapsRowed Tryz.prog = true := by kernel_rfl
end Go.Proofs.YtlcconkbldnkmaaGreatDoor
