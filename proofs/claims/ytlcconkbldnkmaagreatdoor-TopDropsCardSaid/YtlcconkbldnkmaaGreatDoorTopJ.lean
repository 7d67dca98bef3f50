/- Part of the executor and its soundness, or of what it is told of this seat's program. No statement of the seat is proved here. -/
import Derived.Test.YtlcconkbldnkmaaGreatDoorTopA
import Derived.Test.YtlcconkbldnkmaaGreatDoorTopB
import Derived.Test.YtlcconkbldnkmaaGreatDoorTopC
import Derived.Test.YtlcconkbldnkmaaGreatDoorTopD
import Derived.Test.YtlcconkbldnkmaaGreatDoorTopE
/- The row's closed facts, joined. No statement of the seat is proved here. -/
namespace Go.Proofs.YtlcconkbldnkmaaGreatDoor
open Go
theorem closed0 : joinedFacts Tryz.prog 3 Tryz.f3 (OpenSpec.ofChange Rows.topDropsSpec).bare Rows.topDropsRow = true := by
  unfold joinedFacts
  rw [jLaid, jMaps, jIn, jUn, jRe, jNa]
  kernel_rfl
theorem closed : joinedFacts Tryz.pinned.checked.prog 3 Tryz.f3 (OpenSpec.ofChange Rows.topDropsSpec).bare Rows.topDropsRow = true := by
  have e1 : Tryz.pinned.checked.prog = Tryz.prog := rfl
  rw [e1]; exact closed0
end Go.Proofs.YtlcconkbldnkmaaGreatDoor
