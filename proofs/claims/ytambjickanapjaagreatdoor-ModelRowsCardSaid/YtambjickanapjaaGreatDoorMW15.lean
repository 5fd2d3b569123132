/- Texts put together: ModelRowsClosed. -/
import Derived.Test.YtambjickanapjaaGreatDoorCards
import Derived.Test.YtambjickanapjaaGreatDoorTie
import Derived.ChangeOld
import Derived.Below
import Derived.JoinedCond
set_option linter.unusedVariables false
set_option linter.unusedSimpArgs false
set_option maxRecDepth 100000
set_option maxHeartbeats 8000000
section
namespace Go.Proofs.YtambjickanapjaaGreatDoor.modelRows
open Go.ChangeShapes Go.WideShapes Go.ChangeAt Go.RowKit
theorem closed:joinedFacts Tryz.pinned.checked.prog 3 Tryz.f3 (OpenSpec.ofChange Rows.modelRowsSpec).bare Rows.modelRowsRow=true:=of_decide_eq_true (by kernel_rfl)
end Go.Proofs.YtambjickanapjaaGreatDoor.modelRows
end
