/- Texts put together: MailTellsClosed. -/
import Derived.Test.YtinnifhnabncfaaGreatDoorCards
import Derived.Test.YtinnifhnabncfaaGreatDoorTie
import Derived.ChangeOld
import Derived.Below
import Derived.JoinedCond
set_option linter.unusedVariables false
set_option linter.unusedSimpArgs false
section
namespace Go.Proofs.YtinnifhnabncfaaGreatDoor.mailTells
open Go.ChangeShapes Go.WideShapes Go.ChangeAt Go.RowKit
theorem closed : joinedFacts Tryz.pinned.checked.prog 10 Tryz.f10 (Rows.OpenSpec.upto Rows.mailTellsSpec).bare Rows.mailTellsUptoRow = true := of_decide_eq_true (by kernel_rfl)
end Go.Proofs.YtinnifhnabncfaaGreatDoor.mailTells
end
