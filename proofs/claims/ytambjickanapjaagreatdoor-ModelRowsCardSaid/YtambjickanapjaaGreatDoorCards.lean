/-
  DERIVED. GIVEN WITH THE SEED: THE CARDS: each row of YtambjickanapjaaGreatDoorRows.lean that lists a variable, with what it lists TIED to the program's text (the seventh form; the later family's looks); each row that meets fmt, with fmt's text TOLD by the authors' own Lean function (tested against real Go, not proved from fmt's source: count such statements apart). THE CARD IS WHAT COUNTS. Prove the row's statement (the work); the ties are given (YtambjickanapjaaGreatDoorTie.lean); close each card by the builder's one call (the guide's Derived/Test/ToyasCard.lean, 'card_holds'). Laid BY PROGRAM, IN A SANDBOX (cutbox-door.mjs). By AI agents, Wed Nov 11 2026. No macro, syntax, notation, axiom, sorry.
-/
import Derived.Test.YtambjickanapjaaGreatDoorRows
import GoSem.ClaimSeven
namespace Go.Proofs.YtambjickanapjaaGreatDoor
namespace Rows

/-- THE TIED CARD OF 'hopperlaw23.ModelRows'. -/
def modelRowsCard : Claim7 := { stood := { row := modelRowsRow, standIns := [], harness := (true, "aa7f6c3a039c8664c3f1e27322ee9288c57b1587018daac1b0951faafe671cad"), looks := false }, kinds := [], alts := [], laidByText := true, laidKinds := [.data, .pinned], laidTests := true, laidLooks := .later }
def ModelRowsCardSaid : Prop := Claim7.holds Tryz.pinned (.plain (OpenSpec.ofChange modelRowsSpec)) modelRowsCard

/-- THE TIED CARD OF 'hopperlaw19.AgentNumbers'. -/
def agentNumbersCard : Claim7 := { stood := { row := agentNumbersRow, standIns := [], harness := (true, "aa7f6c3a039c8664c3f1e27322ee9288c57b1587018daac1b0951faafe671cad"), looks := false }, kinds := [], alts := [], laidByText := true, laidKinds := [.data, .pinned], laidTests := true, laidLooks := .later }
def AgentNumbersCardSaid : Prop := Claim7.holds Tryz.pinned (.plain (OpenSpec.ofChange agentNumbersSpec)) agentNumbersCard

/-- THE TIED CARD OF 'hopperlaw19.AgentPlays'. -/
def agentPlaysCard : Claim7 := { stood := { row := agentPlaysRow, standIns := [], harness := (true, "aa7f6c3a039c8664c3f1e27322ee9288c57b1587018daac1b0951faafe671cad"), looks := false }, kinds := [], alts := [], laidByText := true, laidKinds := [.data, .pinned], laidTests := true, laidLooks := .later }
def AgentPlaysCardSaid : Prop := Claim7.holds Tryz.pinned (.plain (OpenSpec.ofChange agentPlaysSpec)) agentPlaysCard

/-- THE SECOND FORM's CARD OF 'hopperlaw23.ModelRows'. -/
def modelRowsUptoCard : Claim7 := { stood := { row := modelRowsUptoRow, standIns := [], harness := (true, "aa7f6c3a039c8664c3f1e27322ee9288c57b1587018daac1b0951faafe671cad"), looks := false }, kinds := [], alts := [], laidByText := true, laidKinds := [.data, .pinned], laidTests := true, laidLooks := .later }
def ModelRowsUptoCardSaid : Prop := Claim7.holds Tryz.pinned (.plain (OpenSpec.upto modelRowsSpec)) modelRowsUptoCard

/-- THE SECOND FORM's CARD OF 'hopperlaw19.AgentNumbers'. -/
def agentNumbersUptoCard : Claim7 := { stood := { row := agentNumbersUptoRow, standIns := [], harness := (true, "aa7f6c3a039c8664c3f1e27322ee9288c57b1587018daac1b0951faafe671cad"), looks := false }, kinds := [], alts := [], laidByText := true, laidKinds := [.data, .pinned], laidTests := true, laidLooks := .later }
def AgentNumbersUptoCardSaid : Prop := Claim7.holds Tryz.pinned (.plain (OpenSpec.upto agentNumbersSpec)) agentNumbersUptoCard

/-- THE SECOND FORM's CARD OF 'hopperlaw19.AgentPlays'. -/
def agentPlaysUptoCard : Claim7 := { stood := { row := agentPlaysUptoRow, standIns := [], harness := (true, "aa7f6c3a039c8664c3f1e27322ee9288c57b1587018daac1b0951faafe671cad"), looks := false }, kinds := [], alts := [], laidByText := true, laidKinds := [.data, .pinned], laidTests := true, laidLooks := .later }
def AgentPlaysUptoCardSaid : Prop := Claim7.holds Tryz.pinned (.plain (OpenSpec.upto agentPlaysSpec)) agentPlaysUptoCard
end Rows
end Go.Proofs.YtambjickanapjaaGreatDoor
