/- AgentKeeps and AgentDones, both. -/
import Derived.Test.YtgdooockldgdlaaGreatDoorAK13
import Derived.Test.YtgdooockldgdlaaGreatDoorAK14
set_option linter.unusedVariables false
set_option linter.unusedSimpArgs false
section
namespace Go.Proofs.YtgdooockldgdlaaGreatDoor.agentKD
theorem both : True := by
  have h1 := @agentKeeps.proved
  have h2 := @agentDones.proved
  trivial
end Go.Proofs.YtgdooockldgdlaaGreatDoor.agentKD
end
