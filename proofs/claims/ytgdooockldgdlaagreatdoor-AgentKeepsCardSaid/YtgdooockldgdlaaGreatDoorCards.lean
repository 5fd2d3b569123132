/-
  DERIVED. GIVEN WITH THE SEED: THE CARDS: each row of YtgdooockldgdlaaGreatDoorRows.lean that lists a variable, with what it lists TIED to the program's text (the seventh form; the later family's looks); each row that meets fmt, with fmt's text TOLD by the authors' own Lean function (tested against real Go, not proved from fmt's source: count such statements apart). THE CARD IS WHAT COUNTS. Prove the row's statement (the work); the ties are given (YtgdooockldgdlaaGreatDoorTie.lean); close each card by the builder's one call (the guide's Derived/Test/ToyasCard.lean, 'card_holds'). Laid BY PROGRAM, IN A SANDBOX (cutbox-door.mjs). By AI agents, Wed Nov 11 2026. No macro, syntax, notation, axiom, sorry.
-/
import Derived.Test.YtgdooockldgdlaaGreatDoorRows
import GoSem.ClaimSeven
namespace Go.Proofs.YtgdooockldgdlaaGreatDoor
namespace Rows

/-- THE TIED CARD OF 'hopperlaw13.MachineOnce'. -/
def machineOnceCard : Claim7 := { stood := { row := machineOnceRow, standIns := [], harness := (true, "f99dec74032f4180c8c3b1b2c88e814ebf24f4be510e4c0cfd532f4606bceac1"), looks := false }, kinds := [], alts := [], laidByText := true, laidKinds := [.data, .pinned], laidTests := true, laidLooks := .later }
def MachineOnceCardSaid : Prop := Claim7.holds Tryz.pinned (.plain (OpenSpec.ofChange machineOnceSpec)) machineOnceCard

/-- THE TIED CARD OF 'hopperlaw19.AgentWaits'. -/
def agentWaitsCard : Claim7 := { stood := { row := agentWaitsRow, standIns := [], harness := (true, "f99dec74032f4180c8c3b1b2c88e814ebf24f4be510e4c0cfd532f4606bceac1"), looks := false }, kinds := [], alts := [], laidByText := true, laidKinds := [.data, .pinned], laidTests := true, laidLooks := .later }
def AgentWaitsCardSaid : Prop := Claim7.holds Tryz.pinned (.plain (OpenSpec.ofChange agentWaitsSpec)) agentWaitsCard

/-- THE TIED CARD OF 'hopperlaw19.AgentDones'. -/
def agentDonesCard : Claim7 := { stood := { row := agentDonesRow, standIns := [], harness := (true, "f99dec74032f4180c8c3b1b2c88e814ebf24f4be510e4c0cfd532f4606bceac1"), looks := false }, kinds := [], alts := [], laidByText := true, laidKinds := [.data, .pinned], laidTests := true, laidLooks := .later }
def AgentDonesCardSaid : Prop := Claim7.holds Tryz.pinned (.plain (OpenSpec.ofChange agentDonesSpec)) agentDonesCard

/-- THE TIED CARD OF 'hopperlaw19.AgentKeeps'. -/
def agentKeepsCard : Claim7 := { stood := { row := agentKeepsRow, standIns := [], harness := (true, "f99dec74032f4180c8c3b1b2c88e814ebf24f4be510e4c0cfd532f4606bceac1"), looks := false }, kinds := [], alts := [], laidByText := true, laidKinds := [.data, .pinned], laidTests := true, laidLooks := .later }
def AgentKeepsCardSaid : Prop := Claim7.holds Tryz.pinned (.plain (OpenSpec.ofChange agentKeepsSpec)) agentKeepsCard

/-- THE TIED CARD OF 'hopperlaw19.AgentSums'. -/
def agentSumsCard : Claim7 := { stood := { row := agentSumsRow, standIns := [], harness := (true, "f99dec74032f4180c8c3b1b2c88e814ebf24f4be510e4c0cfd532f4606bceac1"), looks := false }, kinds := [], alts := [], laidByText := true, laidKinds := [.data, .pinned], laidTests := true, laidLooks := .later }
def AgentSumsCardSaid : Prop := Claim7.holds Tryz.pinned (.plain (OpenSpec.ofChange agentSumsSpec)) agentSumsCard

/-- THE TIED CARD OF 'hopperlaw19.AgentNumbers'. -/
def agentNumbersCard : Claim7 := { stood := { row := agentNumbersRow, standIns := [], harness := (true, "f99dec74032f4180c8c3b1b2c88e814ebf24f4be510e4c0cfd532f4606bceac1"), looks := false }, kinds := [], alts := [], laidByText := true, laidKinds := [.data, .pinned], laidTests := true, laidLooks := .later }
def AgentNumbersCardSaid : Prop := Claim7.holds Tryz.pinned (.plain (OpenSpec.ofChange agentNumbersSpec)) agentNumbersCard

/-- THE TIED CARD OF 'hopperlaw19.AgentPlays'. -/
def agentPlaysCard : Claim7 := { stood := { row := agentPlaysRow, standIns := [], harness := (true, "f99dec74032f4180c8c3b1b2c88e814ebf24f4be510e4c0cfd532f4606bceac1"), looks := false }, kinds := [], alts := [], laidByText := true, laidKinds := [.data, .pinned], laidTests := true, laidLooks := .later }
def AgentPlaysCardSaid : Prop := Claim7.holds Tryz.pinned (.plain (OpenSpec.ofChange agentPlaysSpec)) agentPlaysCard

/-- THE SECOND FORM's CARD OF 'hopperlaw13.MachineOnce'. -/
def machineOnceUptoCard : Claim7 := { stood := { row := machineOnceUptoRow, standIns := [], harness := (true, "f99dec74032f4180c8c3b1b2c88e814ebf24f4be510e4c0cfd532f4606bceac1"), looks := false }, kinds := [], alts := [], laidByText := true, laidKinds := [.data, .pinned], laidTests := true, laidLooks := .later }
def MachineOnceUptoCardSaid : Prop := Claim7.holds Tryz.pinned (.plain (OpenSpec.upto machineOnceSpec)) machineOnceUptoCard

/-- THE SECOND FORM's CARD OF 'hopperlaw19.AgentWaits'. -/
def agentWaitsUptoCard : Claim7 := { stood := { row := agentWaitsUptoRow, standIns := [], harness := (true, "f99dec74032f4180c8c3b1b2c88e814ebf24f4be510e4c0cfd532f4606bceac1"), looks := false }, kinds := [], alts := [], laidByText := true, laidKinds := [.data, .pinned], laidTests := true, laidLooks := .later }
def AgentWaitsUptoCardSaid : Prop := Claim7.holds Tryz.pinned (.plain (OpenSpec.upto agentWaitsSpec)) agentWaitsUptoCard

/-- THE SECOND FORM's CARD OF 'hopperlaw19.AgentDones'. -/
def agentDonesUptoCard : Claim7 := { stood := { row := agentDonesUptoRow, standIns := [], harness := (true, "f99dec74032f4180c8c3b1b2c88e814ebf24f4be510e4c0cfd532f4606bceac1"), looks := false }, kinds := [], alts := [], laidByText := true, laidKinds := [.data, .pinned], laidTests := true, laidLooks := .later }
def AgentDonesUptoCardSaid : Prop := Claim7.holds Tryz.pinned (.plain (OpenSpec.upto agentDonesSpec)) agentDonesUptoCard

/-- THE SECOND FORM's CARD OF 'hopperlaw19.AgentKeeps'. -/
def agentKeepsUptoCard : Claim7 := { stood := { row := agentKeepsUptoRow, standIns := [], harness := (true, "f99dec74032f4180c8c3b1b2c88e814ebf24f4be510e4c0cfd532f4606bceac1"), looks := false }, kinds := [], alts := [], laidByText := true, laidKinds := [.data, .pinned], laidTests := true, laidLooks := .later }
def AgentKeepsUptoCardSaid : Prop := Claim7.holds Tryz.pinned (.plain (OpenSpec.upto agentKeepsSpec)) agentKeepsUptoCard

/-- THE SECOND FORM's CARD OF 'hopperlaw19.AgentSums'. -/
def agentSumsUptoCard : Claim7 := { stood := { row := agentSumsUptoRow, standIns := [], harness := (true, "f99dec74032f4180c8c3b1b2c88e814ebf24f4be510e4c0cfd532f4606bceac1"), looks := false }, kinds := [], alts := [], laidByText := true, laidKinds := [.data, .pinned], laidTests := true, laidLooks := .later }
def AgentSumsUptoCardSaid : Prop := Claim7.holds Tryz.pinned (.plain (OpenSpec.upto agentSumsSpec)) agentSumsUptoCard

/-- THE SECOND FORM's CARD OF 'hopperlaw19.AgentNumbers'. -/
def agentNumbersUptoCard : Claim7 := { stood := { row := agentNumbersUptoRow, standIns := [], harness := (true, "f99dec74032f4180c8c3b1b2c88e814ebf24f4be510e4c0cfd532f4606bceac1"), looks := false }, kinds := [], alts := [], laidByText := true, laidKinds := [.data, .pinned], laidTests := true, laidLooks := .later }
def AgentNumbersUptoCardSaid : Prop := Claim7.holds Tryz.pinned (.plain (OpenSpec.upto agentNumbersSpec)) agentNumbersUptoCard

/-- THE SECOND FORM's CARD OF 'hopperlaw19.AgentPlays'. -/
def agentPlaysUptoCard : Claim7 := { stood := { row := agentPlaysUptoRow, standIns := [], harness := (true, "f99dec74032f4180c8c3b1b2c88e814ebf24f4be510e4c0cfd532f4606bceac1"), looks := false }, kinds := [], alts := [], laidByText := true, laidKinds := [.data, .pinned], laidTests := true, laidLooks := .later }
def AgentPlaysUptoCardSaid : Prop := Claim7.holds Tryz.pinned (.plain (OpenSpec.upto agentPlaysSpec)) agentPlaysUptoCard
end Rows
end Go.Proofs.YtgdooockldgdlaaGreatDoor
