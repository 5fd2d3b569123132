/-
  DERIVED. GIVEN WITH THE SEED: THE CARDS: each row of YtinnifhnabncfaaGreatDoorRows.lean that lists a variable, with what it lists TIED to the program's text (the seventh form; the later family's looks); each row that meets fmt, with fmt's text TOLD by the authors' own Lean function (tested against real Go, not proved from fmt's source: count such statements apart). THE CARD IS WHAT COUNTS. Prove the row's statement (the work); the ties are given (YtinnifhnabncfaaGreatDoorTie.lean); close each card by the builder's one call (the guide's Derived/Test/ToyasCard.lean, 'card_holds'). Laid BY PROGRAM, IN A SANDBOX (cutbox-door.mjs). By AI agents, Wed Nov 11 2026. No macro, syntax, notation, axiom, sorry.
-/
import Derived.Test.YtinnifhnabncfaaGreatDoorRows
import GoSem.ClaimSeven
namespace Go.Proofs.YtinnifhnabncfaaGreatDoor
namespace Rows

/-- THE TIED CARD OF 'hopperlaw4.EntryNumbers'. -/
def entryNumbersCard : Claim7 := { stood := { row := entryNumbersRow, standIns := [], harness := (true, "bb77b220fcdbb608d302bc1e8200fd5bc68b5f4d2228efda9d19514a6dea96be"), looks := false }, kinds := [], alts := [], laidByText := true, laidKinds := [.data, .pinned], laidTests := true, laidLooks := .later }
def EntryNumbersCardSaid : Prop := Claim7.holds Tryz.pinned (.plain (OpenSpec.ofChange entryNumbersSpec)) entryNumbersCard

/-- THE TIED CARD OF 'hopperlaw4.EntryTells'. -/
def entryTellsCard : Claim7 := { stood := { row := entryTellsRow, standIns := [], harness := (true, "bb77b220fcdbb608d302bc1e8200fd5bc68b5f4d2228efda9d19514a6dea96be"), looks := false }, kinds := [], alts := [], laidByText := true, laidKinds := [.data, .pinned], laidTests := true, laidLooks := .later }
def EntryTellsCardSaid : Prop := Claim7.holds Tryz.pinned (.plain (OpenSpec.ofChange entryTellsSpec)) entryTellsCard

/-- THE TIED CARD OF 'hopperlaw14.VoteNever'. -/
def voteNeverCard : Claim7 := { stood := { row := voteNeverRow, standIns := [], harness := (true, "bb77b220fcdbb608d302bc1e8200fd5bc68b5f4d2228efda9d19514a6dea96be"), looks := false }, kinds := [], alts := [], laidByText := true, laidKinds := [.data, .pinned], laidTests := true, laidLooks := .later }
def VoteNeverCardSaid : Prop := Claim7.holds Tryz.pinned (.plain (OpenSpec.ofChange voteNeverSpec)) voteNeverCard

/-- THE TIED CARD OF 'hopperlaw14.VoteRows'. -/
def voteRowsCard : Claim7 := { stood := { row := voteRowsRow, standIns := [], harness := (true, "bb77b220fcdbb608d302bc1e8200fd5bc68b5f4d2228efda9d19514a6dea96be"), looks := false }, kinds := [], alts := [], laidByText := true, laidKinds := [.data, .pinned], laidTests := true, laidLooks := .later }
def VoteRowsCardSaid : Prop := Claim7.holds Tryz.pinned (.plain (OpenSpec.ofChange voteRowsSpec)) voteRowsCard

/-- THE TIED CARD OF 'hopperlaw14.VoteNumbers'. -/
def voteNumbersCard : Claim7 := { stood := { row := voteNumbersRow, standIns := [], harness := (true, "bb77b220fcdbb608d302bc1e8200fd5bc68b5f4d2228efda9d19514a6dea96be"), looks := false }, kinds := [], alts := [], laidByText := true, laidKinds := [.data, .pinned], laidTests := true, laidLooks := .later }
def VoteNumbersCardSaid : Prop := Claim7.holds Tryz.pinned (.plain (OpenSpec.ofChange voteNumbersSpec)) voteNumbersCard

/-- THE TIED CARD OF 'hopperlaw14.VotePlays'. -/
def votePlaysCard : Claim7 := { stood := { row := votePlaysRow, standIns := [], harness := (true, "bb77b220fcdbb608d302bc1e8200fd5bc68b5f4d2228efda9d19514a6dea96be"), looks := false }, kinds := [], alts := [], laidByText := true, laidKinds := [.data, .pinned], laidTests := true, laidLooks := .later }
def VotePlaysCardSaid : Prop := Claim7.holds Tryz.pinned (.plain (OpenSpec.ofChange votePlaysSpec)) votePlaysCard

/-- THE TIED CARD OF 'hopperlaw6.MailNumbers'. -/
def mailNumbersCard : Claim7 := { stood := { row := mailNumbersRow, standIns := [], harness := (true, "bb77b220fcdbb608d302bc1e8200fd5bc68b5f4d2228efda9d19514a6dea96be"), looks := false }, kinds := [], alts := [], laidByText := true, laidKinds := [.data, .pinned], laidTests := true, laidLooks := .later }
def MailNumbersCardSaid : Prop := Claim7.holds Tryz.pinned (.plain (OpenSpec.ofChange mailNumbersSpec)) mailNumbersCard

/-- THE TIED CARD OF 'hopperlaw6.MailTells'. -/
def mailTellsCard : Claim7 := { stood := { row := mailTellsRow, standIns := [], harness := (true, "bb77b220fcdbb608d302bc1e8200fd5bc68b5f4d2228efda9d19514a6dea96be"), looks := false }, kinds := [], alts := [], laidByText := true, laidKinds := [.data, .pinned], laidTests := true, laidLooks := .later }
def MailTellsCardSaid : Prop := Claim7.holds Tryz.pinned (.plain (OpenSpec.ofChange mailTellsSpec)) mailTellsCard

/-- THE TIED CARD OF 'hopperlaw6.MailBack'. -/
def mailBackCard : Claim7 := { stood := { row := mailBackRow, standIns := [], harness := (true, "bb77b220fcdbb608d302bc1e8200fd5bc68b5f4d2228efda9d19514a6dea96be"), looks := false }, kinds := [], alts := [], laidByText := true, laidKinds := [.data, .pinned], laidTests := true, laidLooks := .later }
def MailBackCardSaid : Prop := Claim7.holds Tryz.pinned (.plain (OpenSpec.ofChange mailBackSpec)) mailBackCard

/-- THE TIED CARD OF 'hopperlaw13.MachineFences'. -/
def machineFencesCard : Claim7 := { stood := { row := machineFencesRow, standIns := [], harness := (true, "bb77b220fcdbb608d302bc1e8200fd5bc68b5f4d2228efda9d19514a6dea96be"), looks := false }, kinds := [], alts := [], laidByText := true, laidKinds := [.data, .pinned], laidTests := true, laidLooks := .later }
def MachineFencesCardSaid : Prop := Claim7.holds Tryz.pinned (.plain (OpenSpec.ofChange machineFencesSpec)) machineFencesCard

/-- THE TIED CARD OF 'hopperlaw13.MachineOnce'. -/
def machineOnceCard : Claim7 := { stood := { row := machineOnceRow, standIns := [], harness := (true, "bb77b220fcdbb608d302bc1e8200fd5bc68b5f4d2228efda9d19514a6dea96be"), looks := false }, kinds := [], alts := [], laidByText := true, laidKinds := [.data, .pinned], laidTests := true, laidLooks := .later }
def MachineOnceCardSaid : Prop := Claim7.holds Tryz.pinned (.plain (OpenSpec.ofChange machineOnceSpec)) machineOnceCard

/-- THE TIED CARD OF 'hopperlaw13.MachineReads'. -/
def machineReadsCard : Claim7 := { stood := { row := machineReadsRow, standIns := [], harness := (true, "bb77b220fcdbb608d302bc1e8200fd5bc68b5f4d2228efda9d19514a6dea96be"), looks := false }, kinds := [], alts := [], laidByText := true, laidKinds := [.data, .pinned], laidTests := true, laidLooks := .later }
def MachineReadsCardSaid : Prop := Claim7.holds Tryz.pinned (.plain (OpenSpec.ofChange machineReadsSpec)) machineReadsCard

/-- THE SECOND FORM's CARD OF 'hopperlaw4.EntryNumbers'. -/
def entryNumbersUptoCard : Claim7 := { stood := { row := entryNumbersUptoRow, standIns := [], harness := (true, "bb77b220fcdbb608d302bc1e8200fd5bc68b5f4d2228efda9d19514a6dea96be"), looks := false }, kinds := [], alts := [], laidByText := true, laidKinds := [.data, .pinned], laidTests := true, laidLooks := .later }
def EntryNumbersUptoCardSaid : Prop := Claim7.holds Tryz.pinned (.plain (OpenSpec.upto entryNumbersSpec)) entryNumbersUptoCard

/-- THE SECOND FORM's CARD OF 'hopperlaw4.EntryTells'. -/
def entryTellsUptoCard : Claim7 := { stood := { row := entryTellsUptoRow, standIns := [], harness := (true, "bb77b220fcdbb608d302bc1e8200fd5bc68b5f4d2228efda9d19514a6dea96be"), looks := false }, kinds := [], alts := [], laidByText := true, laidKinds := [.data, .pinned], laidTests := true, laidLooks := .later }
def EntryTellsUptoCardSaid : Prop := Claim7.holds Tryz.pinned (.plain (OpenSpec.upto entryTellsSpec)) entryTellsUptoCard

/-- THE SECOND FORM's CARD OF 'hopperlaw14.VoteNever'. -/
def voteNeverUptoCard : Claim7 := { stood := { row := voteNeverUptoRow, standIns := [], harness := (true, "bb77b220fcdbb608d302bc1e8200fd5bc68b5f4d2228efda9d19514a6dea96be"), looks := false }, kinds := [], alts := [], laidByText := true, laidKinds := [.data, .pinned], laidTests := true, laidLooks := .later }
def VoteNeverUptoCardSaid : Prop := Claim7.holds Tryz.pinned (.plain (OpenSpec.upto voteNeverSpec)) voteNeverUptoCard

/-- THE SECOND FORM's CARD OF 'hopperlaw14.VoteRows'. -/
def voteRowsUptoCard : Claim7 := { stood := { row := voteRowsUptoRow, standIns := [], harness := (true, "bb77b220fcdbb608d302bc1e8200fd5bc68b5f4d2228efda9d19514a6dea96be"), looks := false }, kinds := [], alts := [], laidByText := true, laidKinds := [.data, .pinned], laidTests := true, laidLooks := .later }
def VoteRowsUptoCardSaid : Prop := Claim7.holds Tryz.pinned (.plain (OpenSpec.upto voteRowsSpec)) voteRowsUptoCard

/-- THE SECOND FORM's CARD OF 'hopperlaw14.VoteNumbers'. -/
def voteNumbersUptoCard : Claim7 := { stood := { row := voteNumbersUptoRow, standIns := [], harness := (true, "bb77b220fcdbb608d302bc1e8200fd5bc68b5f4d2228efda9d19514a6dea96be"), looks := false }, kinds := [], alts := [], laidByText := true, laidKinds := [.data, .pinned], laidTests := true, laidLooks := .later }
def VoteNumbersUptoCardSaid : Prop := Claim7.holds Tryz.pinned (.plain (OpenSpec.upto voteNumbersSpec)) voteNumbersUptoCard

/-- THE SECOND FORM's CARD OF 'hopperlaw14.VotePlays'. -/
def votePlaysUptoCard : Claim7 := { stood := { row := votePlaysUptoRow, standIns := [], harness := (true, "bb77b220fcdbb608d302bc1e8200fd5bc68b5f4d2228efda9d19514a6dea96be"), looks := false }, kinds := [], alts := [], laidByText := true, laidKinds := [.data, .pinned], laidTests := true, laidLooks := .later }
def VotePlaysUptoCardSaid : Prop := Claim7.holds Tryz.pinned (.plain (OpenSpec.upto votePlaysSpec)) votePlaysUptoCard

/-- THE SECOND FORM's CARD OF 'hopperlaw6.MailNumbers'. -/
def mailNumbersUptoCard : Claim7 := { stood := { row := mailNumbersUptoRow, standIns := [], harness := (true, "bb77b220fcdbb608d302bc1e8200fd5bc68b5f4d2228efda9d19514a6dea96be"), looks := false }, kinds := [], alts := [], laidByText := true, laidKinds := [.data, .pinned], laidTests := true, laidLooks := .later }
def MailNumbersUptoCardSaid : Prop := Claim7.holds Tryz.pinned (.plain (OpenSpec.upto mailNumbersSpec)) mailNumbersUptoCard

/-- THE SECOND FORM's CARD OF 'hopperlaw6.MailTells'. -/
def mailTellsUptoCard : Claim7 := { stood := { row := mailTellsUptoRow, standIns := [], harness := (true, "bb77b220fcdbb608d302bc1e8200fd5bc68b5f4d2228efda9d19514a6dea96be"), looks := false }, kinds := [], alts := [], laidByText := true, laidKinds := [.data, .pinned], laidTests := true, laidLooks := .later }
def MailTellsUptoCardSaid : Prop := Claim7.holds Tryz.pinned (.plain (OpenSpec.upto mailTellsSpec)) mailTellsUptoCard

/-- THE SECOND FORM's CARD OF 'hopperlaw6.MailBack'. -/
def mailBackUptoCard : Claim7 := { stood := { row := mailBackUptoRow, standIns := [], harness := (true, "bb77b220fcdbb608d302bc1e8200fd5bc68b5f4d2228efda9d19514a6dea96be"), looks := false }, kinds := [], alts := [], laidByText := true, laidKinds := [.data, .pinned], laidTests := true, laidLooks := .later }
def MailBackUptoCardSaid : Prop := Claim7.holds Tryz.pinned (.plain (OpenSpec.upto mailBackSpec)) mailBackUptoCard

/-- THE SECOND FORM's CARD OF 'hopperlaw13.MachineFences'. -/
def machineFencesUptoCard : Claim7 := { stood := { row := machineFencesUptoRow, standIns := [], harness := (true, "bb77b220fcdbb608d302bc1e8200fd5bc68b5f4d2228efda9d19514a6dea96be"), looks := false }, kinds := [], alts := [], laidByText := true, laidKinds := [.data, .pinned], laidTests := true, laidLooks := .later }
def MachineFencesUptoCardSaid : Prop := Claim7.holds Tryz.pinned (.plain (OpenSpec.upto machineFencesSpec)) machineFencesUptoCard

/-- THE SECOND FORM's CARD OF 'hopperlaw13.MachineOnce'. -/
def machineOnceUptoCard : Claim7 := { stood := { row := machineOnceUptoRow, standIns := [], harness := (true, "bb77b220fcdbb608d302bc1e8200fd5bc68b5f4d2228efda9d19514a6dea96be"), looks := false }, kinds := [], alts := [], laidByText := true, laidKinds := [.data, .pinned], laidTests := true, laidLooks := .later }
def MachineOnceUptoCardSaid : Prop := Claim7.holds Tryz.pinned (.plain (OpenSpec.upto machineOnceSpec)) machineOnceUptoCard

/-- THE SECOND FORM's CARD OF 'hopperlaw13.MachineReads'. -/
def machineReadsUptoCard : Claim7 := { stood := { row := machineReadsUptoRow, standIns := [], harness := (true, "bb77b220fcdbb608d302bc1e8200fd5bc68b5f4d2228efda9d19514a6dea96be"), looks := false }, kinds := [], alts := [], laidByText := true, laidKinds := [.data, .pinned], laidTests := true, laidLooks := .later }
def MachineReadsUptoCardSaid : Prop := Claim7.holds Tryz.pinned (.plain (OpenSpec.upto machineReadsSpec)) machineReadsUptoCard
end Rows
end Go.Proofs.YtinnifhnabncfaaGreatDoor
