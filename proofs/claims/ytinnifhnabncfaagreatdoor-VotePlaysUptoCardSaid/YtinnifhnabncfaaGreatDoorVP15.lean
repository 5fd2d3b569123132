/- Texts put together: VotePlaysClosed. -/
import Derived.Test.YtinnifhnabncfaaGreatDoorCards
import Derived.Test.YtinnifhnabncfaaGreatDoorTie
import Derived.ChangeOld
import Derived.Below
import Derived.JoinedCond
set_option linter.unusedVariables false
set_option linter.unusedSimpArgs false
section
namespace Go.Proofs.YtinnifhnabncfaaGreatDoor.votePlays
open Go.ChangeShapes Go.WideShapes Go.ChangeAt Go.RowKit
theorem closed : joinedFacts Tryz.pinned.checked.prog 8 Tryz.f8 (Rows.OpenSpec.upto Rows.votePlaysSpec).bare Rows.votePlaysUptoRow = true := of_decide_eq_true (by kernel_rfl)
end Go.Proofs.YtinnifhnabncfaaGreatDoor.votePlays
end
