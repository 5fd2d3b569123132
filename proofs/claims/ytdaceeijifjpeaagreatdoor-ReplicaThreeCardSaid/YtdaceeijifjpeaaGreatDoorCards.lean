/-
  DERIVED. GIVEN WITH THE SEED: THE CARDS: each row of YtdaceeijifjpeaaGreatDoorRows.lean that lists a variable, with what it lists TIED to the program's text (the seventh form; the later family's looks); each row that meets fmt, with fmt's text TOLD by the authors' own Lean function (tested against real Go, not proved from fmt's source: count such statements apart). THE CARD IS WHAT COUNTS. Prove the row's statement (the work); the ties are given (YtdaceeijifjpeaaGreatDoorTie.lean); close each card by the builder's one call (the guide's Derived/Test/ToyasCard.lean, 'card_holds'). Laid BY PROGRAM, IN A SANDBOX (cutbox-door.mjs). By AI agents, Wed Nov 11 2026. No macro, syntax, notation, axiom, sorry.
-/
import Derived.Test.YtdaceeijifjpeaaGreatDoorRows
import GoSem.ClaimSeven
namespace Go.Proofs.YtdaceeijifjpeaaGreatDoor
namespace Rows

/-- THE TIED CARD OF 'hopperlaw16.ReplicaMost'. -/
def replicaMostCard : Claim7 := { stood := { row := replicaMostRow, standIns := [], harness := (true, "61ce6837329f1ac5be8ad5e76e290130de9be74eaad19844894399375c9d265c"), looks := false }, kinds := [], alts := [], laidByText := true, laidKinds := [.data, .pinned], laidTests := true, laidLooks := .later }
def ReplicaMostCardSaid : Prop := Claim7.holds Tryz.pinned (.plain (OpenSpec.ofChange replicaMostSpec)) replicaMostCard

/-- THE TIED CARD OF 'hopperlaw16.ReplicaThree'. -/
def replicaThreeCard : Claim7 := { stood := { row := replicaThreeRow, standIns := [], harness := (true, "61ce6837329f1ac5be8ad5e76e290130de9be74eaad19844894399375c9d265c"), looks := false }, kinds := [], alts := [], laidByText := true, laidKinds := [.data, .pinned], laidTests := true, laidLooks := .later }
def ReplicaThreeCardSaid : Prop := Claim7.holds Tryz.pinned (.plain (OpenSpec.ofChange replicaThreeSpec)) replicaThreeCard

/-- THE TIED CARD OF 'hopperlaw16.ReplicaAlone'. -/
def replicaAloneCard : Claim7 := { stood := { row := replicaAloneRow, standIns := [], harness := (true, "61ce6837329f1ac5be8ad5e76e290130de9be74eaad19844894399375c9d265c"), looks := false }, kinds := [], alts := [], laidByText := true, laidKinds := [.data, .pinned], laidTests := true, laidLooks := .later }
def ReplicaAloneCardSaid : Prop := Claim7.holds Tryz.pinned (.plain (OpenSpec.ofChange replicaAloneSpec)) replicaAloneCard

/-- THE TIED CARD OF 'hopperlaw16.ReplicaNumbers'. -/
def replicaNumbersCard : Claim7 := { stood := { row := replicaNumbersRow, standIns := [], harness := (true, "61ce6837329f1ac5be8ad5e76e290130de9be74eaad19844894399375c9d265c"), looks := false }, kinds := [], alts := [], laidByText := true, laidKinds := [.data, .pinned], laidTests := true, laidLooks := .later }
def ReplicaNumbersCardSaid : Prop := Claim7.holds Tryz.pinned (.plain (OpenSpec.ofChange replicaNumbersSpec)) replicaNumbersCard

/-- THE SECOND FORM's CARD OF 'hopperlaw16.ReplicaMost'. -/
def replicaMostUptoCard : Claim7 := { stood := { row := replicaMostUptoRow, standIns := [], harness := (true, "61ce6837329f1ac5be8ad5e76e290130de9be74eaad19844894399375c9d265c"), looks := false }, kinds := [], alts := [], laidByText := true, laidKinds := [.data, .pinned], laidTests := true, laidLooks := .later }
def ReplicaMostUptoCardSaid : Prop := Claim7.holds Tryz.pinned (.plain (OpenSpec.upto replicaMostSpec)) replicaMostUptoCard

/-- THE SECOND FORM's CARD OF 'hopperlaw16.ReplicaThree'. -/
def replicaThreeUptoCard : Claim7 := { stood := { row := replicaThreeUptoRow, standIns := [], harness := (true, "61ce6837329f1ac5be8ad5e76e290130de9be74eaad19844894399375c9d265c"), looks := false }, kinds := [], alts := [], laidByText := true, laidKinds := [.data, .pinned], laidTests := true, laidLooks := .later }
def ReplicaThreeUptoCardSaid : Prop := Claim7.holds Tryz.pinned (.plain (OpenSpec.upto replicaThreeSpec)) replicaThreeUptoCard

/-- THE SECOND FORM's CARD OF 'hopperlaw16.ReplicaAlone'. -/
def replicaAloneUptoCard : Claim7 := { stood := { row := replicaAloneUptoRow, standIns := [], harness := (true, "61ce6837329f1ac5be8ad5e76e290130de9be74eaad19844894399375c9d265c"), looks := false }, kinds := [], alts := [], laidByText := true, laidKinds := [.data, .pinned], laidTests := true, laidLooks := .later }
def ReplicaAloneUptoCardSaid : Prop := Claim7.holds Tryz.pinned (.plain (OpenSpec.upto replicaAloneSpec)) replicaAloneUptoCard

/-- THE SECOND FORM's CARD OF 'hopperlaw16.ReplicaNumbers'. -/
def replicaNumbersUptoCard : Claim7 := { stood := { row := replicaNumbersUptoRow, standIns := [], harness := (true, "61ce6837329f1ac5be8ad5e76e290130de9be74eaad19844894399375c9d265c"), looks := false }, kinds := [], alts := [], laidByText := true, laidKinds := [.data, .pinned], laidTests := true, laidLooks := .later }
def ReplicaNumbersUptoCardSaid : Prop := Claim7.holds Tryz.pinned (.plain (OpenSpec.upto replicaNumbersSpec)) replicaNumbersUptoCard
end Rows
end Go.Proofs.YtdaceeijifjpeaaGreatDoor
