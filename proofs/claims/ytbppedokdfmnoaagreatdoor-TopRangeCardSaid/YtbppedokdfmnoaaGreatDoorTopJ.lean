/- Part of the executor and its soundness, or of what it is told of this seat's program. No statement of the seat is proved here. -/
import Derived.Test.YtbppedokdfmnoaaGreatDoorTopA
import Derived.Test.YtbppedokdfmnoaaGreatDoorTopB
import Derived.Test.YtbppedokdfmnoaaGreatDoorTopC
import Derived.Test.YtbppedokdfmnoaaGreatDoorTopD
import Derived.Test.YtbppedokdfmnoaaGreatDoorTopE
namespace Go.Proofs.YtbppedokdfmnoaaGreatDoor
open Go
theorem closed0 : joinedFacts Tryz.prog 3 Tryz.f3 (OpenSpec.ofChange Rows.topRangeSpec).bare Rows.topRangeRow = true := by
 unfold joinedFacts
 rw [jLaid, jMaps, jIn, jUn, jRe, jNa]
 kernel_rfl
theorem closed : joinedFacts Tryz.pinned.checked.prog 3 Tryz.f3 (OpenSpec.ofChange Rows.topRangeSpec).bare Rows.topRangeRow = true := by
 have e1 : Tryz.pinned.checked.prog = Tryz.prog := rfl
 rw [e1]; exact closed0
end Go.Proofs.YtbppedokdfmnoaaGreatDoor
