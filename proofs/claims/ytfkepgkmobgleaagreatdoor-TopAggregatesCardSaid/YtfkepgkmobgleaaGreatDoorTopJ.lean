/- Lemmas for the card. -/
import Derived.Test.YtfkepgkmobgleaaGreatDoorTopA
import Derived.Test.YtfkepgkmobgleaaGreatDoorTopB
import Derived.Test.YtfkepgkmobgleaaGreatDoorTopC
import Derived.Test.YtfkepgkmobgleaaGreatDoorTopD
import Derived.Test.YtfkepgkmobgleaaGreatDoorTopE
namespace Go.Proofs.YtfkepgkmobgleaaGreatDoor
open Go
theorem closed0:joinedFacts Tryz.prog 3 Tryz.f3 (OpenSpec.ofChange Rows.topAggregatesSpec).bare Rows.topAggregatesRow=true:=by
 unfold joinedFacts
 rw[jLaid,jMaps,jIn,jUn,jRe,jNa]
 kernel_rfl
theorem closed:joinedFacts Tryz.pinned.checked.prog 3 Tryz.f3 (OpenSpec.ofChange Rows.topAggregatesSpec).bare Rows.topAggregatesRow=true:=by
 have e1:Tryz.pinned.checked.prog=Tryz.prog:=rfl
 rw[e1];exact closed0
end Go.Proofs.YtfkepgkmobgleaaGreatDoor
