/-
  DERIVED. GIVEN WITH THE SEED: THE CARDS: each row of YtinnifhnabncfaaDoorRows.lean that lists a variable, with what it lists TIED to the program's text (the seventh form; the later family's looks); each row that meets fmt, with fmt's text TOLD by the authors' own Lean function (tested against real Go, not proved from fmt's source: count such statements apart). THE CARD IS WHAT COUNTS. Prove the row's statement (the work); the ties are given (YtinnifhnabncfaaDoorTie.lean); close each card by the builder's one call (the guide's Derived/Test/ToyasCard.lean, 'card_holds'). Laid BY PROGRAM, IN A SANDBOX (cutbox-door.mjs). By AI agents, Wed Nov 11 2026. No macro, syntax, notation, axiom, sorry.
-/
import Derived.Test.YtinnifhnabncfaaDoorRows
import GoSem.ClaimSeven
namespace Go.Proofs.YtinnifhnabncfaaDoor
namespace Rows

/-- THE TIED CARD OF 'hopperlaw4.EntryBack'. -/
def entryBackCard : Claim7 := { stood := { row := entryBackRow, standIns := [], harness := (true, "0aa78b601e94c26ae860164613bf1a6d73f135dbd11bef2e5907d17465f039fb"), looks := false }, kinds := [], alts := [], laidByText := true, laidKinds := [.data, .pinned], laidTests := true, laidLooks := .later }
def EntryBackCardSaid : Prop := Claim7.holds Tryd.pinned (.plain (OpenSpec.ofChange entryBackSpec)) entryBackCard

/-- THE TIED CARD OF 'hopperlaw4.EntryJoins'. -/
def entryJoinsCard : Claim7 := { stood := { row := entryJoinsRow, standIns := [], harness := (true, "0aa78b601e94c26ae860164613bf1a6d73f135dbd11bef2e5907d17465f039fb"), looks := false }, kinds := [], alts := [], laidByText := true, laidKinds := [.data, .pinned], laidTests := true, laidLooks := .later }
def EntryJoinsCardSaid : Prop := Claim7.holds Tryd.pinned (.plain (OpenSpec.ofChange entryJoinsSpec)) entryJoinsCard

/-- THE TIED CARD OF 'hopperlaw4.EntryKinds'. -/
def entryKindsCard : Claim7 := { stood := { row := entryKindsRow, standIns := [], harness := (true, "0aa78b601e94c26ae860164613bf1a6d73f135dbd11bef2e5907d17465f039fb"), looks := false }, kinds := [], alts := [], laidByText := true, laidKinds := [.data, .pinned], laidTests := true, laidLooks := .later }
def EntryKindsCardSaid : Prop := Claim7.holds Tryd.pinned (.plain (OpenSpec.ofChange entryKindsSpec)) entryKindsCard

/-- THE TIED CARD OF 'hopperlaw6.MailOnce'. -/
def mailOnceCard : Claim7 := { stood := { row := mailOnceRow, standIns := [], harness := (true, "0aa78b601e94c26ae860164613bf1a6d73f135dbd11bef2e5907d17465f039fb"), looks := false }, kinds := [], alts := [], laidByText := true, laidKinds := [.data, .pinned], laidTests := true, laidLooks := .later }
def MailOnceCardSaid : Prop := Claim7.holds Tryd.pinned (.plain (OpenSpec.ofChange mailOnceSpec)) mailOnceCard

/-- THE SECOND FORM's CARD OF 'hopperlaw4.EntryBack'. -/
def entryBackUptoCard : Claim7 := { stood := { row := entryBackUptoRow, standIns := [], harness := (true, "0aa78b601e94c26ae860164613bf1a6d73f135dbd11bef2e5907d17465f039fb"), looks := false }, kinds := [], alts := [], laidByText := true, laidKinds := [.data, .pinned], laidTests := true, laidLooks := .later }
def EntryBackUptoCardSaid : Prop := Claim7.holds Tryd.pinned (.plain (OpenSpec.upto entryBackSpec)) entryBackUptoCard

/-- THE SECOND FORM's CARD OF 'hopperlaw4.EntryJoins'. -/
def entryJoinsUptoCard : Claim7 := { stood := { row := entryJoinsUptoRow, standIns := [], harness := (true, "0aa78b601e94c26ae860164613bf1a6d73f135dbd11bef2e5907d17465f039fb"), looks := false }, kinds := [], alts := [], laidByText := true, laidKinds := [.data, .pinned], laidTests := true, laidLooks := .later }
def EntryJoinsUptoCardSaid : Prop := Claim7.holds Tryd.pinned (.plain (OpenSpec.upto entryJoinsSpec)) entryJoinsUptoCard

/-- THE SECOND FORM's CARD OF 'hopperlaw4.EntryKinds'. -/
def entryKindsUptoCard : Claim7 := { stood := { row := entryKindsUptoRow, standIns := [], harness := (true, "0aa78b601e94c26ae860164613bf1a6d73f135dbd11bef2e5907d17465f039fb"), looks := false }, kinds := [], alts := [], laidByText := true, laidKinds := [.data, .pinned], laidTests := true, laidLooks := .later }
def EntryKindsUptoCardSaid : Prop := Claim7.holds Tryd.pinned (.plain (OpenSpec.upto entryKindsSpec)) entryKindsUptoCard

/-- THE SECOND FORM's CARD OF 'hopperlaw6.MailOnce'. -/
def mailOnceUptoCard : Claim7 := { stood := { row := mailOnceUptoRow, standIns := [], harness := (true, "0aa78b601e94c26ae860164613bf1a6d73f135dbd11bef2e5907d17465f039fb"), looks := false }, kinds := [], alts := [], laidByText := true, laidKinds := [.data, .pinned], laidTests := true, laidLooks := .later }
def MailOnceUptoCardSaid : Prop := Claim7.holds Tryd.pinned (.plain (OpenSpec.upto mailOnceSpec)) mailOnceUptoCard
end Rows
end Go.Proofs.YtinnifhnabncfaaDoor
