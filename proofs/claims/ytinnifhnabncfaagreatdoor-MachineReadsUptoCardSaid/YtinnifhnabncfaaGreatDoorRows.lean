/-
  NARROWER THAN 'FOR EVERY INPUT', by the rows' own cells (each row's printed sentence says how): EntryNumbers: laid · EntryTells: laid · VoteNever: laid · VoteRows: laid · VoteNumbers: laid · VotePlays: laid · MailNumbers: laid · MailTells: laid · MailBack: laid · MachineFences: laid · MachineOnce: laid · MachineReads: laid.
  DERIVED. THE GIVEN ROWS OF THIS SEAT. 12 by the template 'for every input the law returns true; each argument reads behind the call as it read before'; 0 by the template 'total and deterministic' (their statements: YtinnifhnabncfaaGreatDoorTotals.lean).
  GIVEN WITH THE SEED: the statements are not yours to turn. If you find one false, say at which input.
  Laid BY PROGRAM, IN A SANDBOX (cutbox-rows.mjs): the forced cells as the released guide's own fill.sh prints them over the translation 701ddda712e2d065… (all of the seat's roots in one cut). By AI agents, Wed Nov 11 2026. No macro, syntax, notation, axiom, sorry.
-/
import Derived.Test.YtinnifhnabncfaaGreatDoorChecked
import GoSem.PinnedTables
import GoSem.Claim
import GoSem.ClaimJoined
import GoSem.ClaimMapViews
import Derived.JoinedTies
import Derived.KernelRfl
namespace Go.Proofs.YtinnifhnabncfaaGreatDoor
/- THE CELL 'sum', in the pinned program and in every row, IS THE sha256 OF THE DUMP (.gsa) THAT YtinnifhnabncfaaGreatDoorProg.lean LOADS. Nothing in Lean hashes anything: it is a label: what it is worth is what the hold of that sum in a sandbox is worth. -/
noncomputable def Tryz.pinned : Pinned := { name := "ytinnifhnabncfaagreatdoor", sum := "701ddda712e2d06500af81db4ede8d7b329b5c85b50b56c0bd15cd57b224af1b", checked := Tryz.checked }
namespace Rows
def none {H : Type} : Left H := { results := [], args := [] }

/- WHAT THE LISTED PACKAGE-LEVEL VARIABLES READ AS WHEN THE CALL BEGINS. Each datum BY PROGRAM (the guide's laid-datum.mjs) off the statement by which the dump's own 'gosem.cut.vars' lays the variable. In a bare row this is a premise. The card (YtinnifhnabncfaaGreatDoorCards.lean) ties it to the program's text. -/
def laid_unicode_utf8_acceptRanges {H : Type} : DataW H := .agg [.agg [.lit (.int .u8 128), .lit (.int .u8 191)], .agg [.lit (.int .u8 160), .lit (.int .u8 191)], .agg [.lit (.int .u8 128), .lit (.int .u8 159)], .agg [.lit (.int .u8 144), .lit (.int .u8 191)], .agg [.lit (.int .u8 128), .lit (.int .u8 143)], .agg [.lit (.int .u8 0), .lit (.int .u8 0)], .agg [.lit (.int .u8 0), .lit (.int .u8 0)], .agg [.lit (.int .u8 0), .lit (.int .u8 0)], .agg [.lit (.int .u8 0), .lit (.int .u8 0)], .agg [.lit (.int .u8 0), .lit (.int .u8 0)], .agg [.lit (.int .u8 0), .lit (.int .u8 0)], .agg [.lit (.int .u8 0), .lit (.int .u8 0)], .agg [.lit (.int .u8 0), .lit (.int .u8 0)], .agg [.lit (.int .u8 0), .lit (.int .u8 0)], .agg [.lit (.int .u8 0), .lit (.int .u8 0)], .agg [.lit (.int .u8 0), .lit (.int .u8 0)]]
/-- One of Go's own tables, pinned by name: the form's constant. -/
def laid_unicode_utf8_first : DataW Unit := Go.Pinned.utf8First

/-- 'hopperlaw4.EntryNumbers': WHATEVER THE INPUT: true; the input reads as it did. -/
def entryNumbersSpec : ChangeSpec := { name := "entryNumbers", fn := fun _ => fun
  | [] => { results := [.lit (.bool true)], args := [] }
  | _ => none }
def entryNumbersRow : OpenClaim := { program := "ytinnifhnabncfaagreatdoor", sum := "701ddda712e2d06500af81db4ede8d7b329b5c85b50b56c0bd15cd57b224af1b", func := "hopper/hopperlaw4.EntryNumbers", spec := "entryNumbers", inPlace := ["internal/bytealg.CountString", "internal/bytealg.IndexByteString", "internal/bytealg.IndexString", "internal/abi.NoEscape", "internal/bytealg.MakeNoZero"], unfollowed := true, recurses := true, named := ["unicode/utf8.first", "unicode/utf8.acceptRanges", "internal/bytealg.MaxLen"], plainKeys := false, apart := false, laid := [("unicode/utf8.acceptRanges", laid_unicode_utf8_acceptRanges), ("unicode/utf8.first", laid_unicode_utf8_first)] }
def EntryNumbersSaid : Prop := entryNumbersRow.holds Tryz.pinned (OpenSpec.ofChange entryNumbersSpec)

/-- ITS FALSE NEIGHBOUR: 'it returns false'. Refute it at one input. -/
def entryNumbersWrong : ChangeSpec := { name := "entryNumbers", fn := fun _ => fun
  | [] => { results := [.lit (.bool false)], args := [] }
  | _ => none }
def EntryNumbersWrongFalsely : Prop := entryNumbersRow.holds Tryz.pinned (OpenSpec.ofChange entryNumbersWrong)

/-- 'hopperlaw4.EntryTells': WHATEVER THE INPUT: true; the input reads as it did. -/
def entryTellsSpec : ChangeSpec := { name := "entryTells", fn := fun _ => fun
  | [d1, d2, d3, d4, d5, d6, d7, d8] => { results := [.lit (.bool true)], args := [d1, d2, d3, d4, d5, d6, d7, d8] }
  | _ => none }
def entryTellsRow : OpenClaim := { program := "ytinnifhnabncfaagreatdoor", sum := "701ddda712e2d06500af81db4ede8d7b329b5c85b50b56c0bd15cd57b224af1b", func := "hopper/hopperlaw4.EntryTells", spec := "entryTells", inPlace := ["internal/bytealg.CountString", "internal/bytealg.IndexByteString", "internal/bytealg.IndexString", "internal/abi.NoEscape", "internal/bytealg.MakeNoZero"], unfollowed := true, recurses := true, named := ["unicode/utf8.first", "unicode/utf8.acceptRanges", "internal/bytealg.MaxLen"], plainKeys := false, apart := false, laid := [("unicode/utf8.acceptRanges", laid_unicode_utf8_acceptRanges), ("unicode/utf8.first", laid_unicode_utf8_first)] }
def EntryTellsSaid : Prop := entryTellsRow.holds Tryz.pinned (OpenSpec.ofChange entryTellsSpec)

/-- ITS FALSE NEIGHBOUR: 'it returns false'. Refute it at one input. -/
def entryTellsWrong : ChangeSpec := { name := "entryTells", fn := fun _ => fun
  | [d1, d2, d3, d4, d5, d6, d7, d8] => { results := [.lit (.bool false)], args := [d1, d2, d3, d4, d5, d6, d7, d8] }
  | _ => none }
def EntryTellsWrongFalsely : Prop := entryTellsRow.holds Tryz.pinned (OpenSpec.ofChange entryTellsWrong)

/-- 'hopperlaw14.VoteNever': WHATEVER THE INPUT: true; the input reads as it did. -/
def voteNeverSpec : ChangeSpec := { name := "voteNever", fn := fun _ => fun
  | [d1, d2] => { results := [.lit (.bool true)], args := [d1, d2] }
  | _ => none }
def voteNeverRow : OpenClaim := { program := "ytinnifhnabncfaagreatdoor", sum := "701ddda712e2d06500af81db4ede8d7b329b5c85b50b56c0bd15cd57b224af1b", func := "hopper/hopperlaw14.VoteNever", spec := "voteNever", inPlace := ["internal/bytealg.CountString", "internal/bytealg.IndexByteString", "internal/bytealg.IndexString", "internal/abi.NoEscape", "internal/bytealg.MakeNoZero"], unfollowed := true, recurses := true, named := ["unicode/utf8.first", "unicode/utf8.acceptRanges", "internal/bytealg.MaxLen"], plainKeys := false, apart := false, laid := [("unicode/utf8.acceptRanges", laid_unicode_utf8_acceptRanges), ("unicode/utf8.first", laid_unicode_utf8_first)] }
def VoteNeverSaid : Prop := voteNeverRow.holds Tryz.pinned (OpenSpec.ofChange voteNeverSpec)

/-- ITS FALSE NEIGHBOUR: 'it returns false'. Refute it at one input. -/
def voteNeverWrong : ChangeSpec := { name := "voteNever", fn := fun _ => fun
  | [d1, d2] => { results := [.lit (.bool false)], args := [d1, d2] }
  | _ => none }
def VoteNeverWrongFalsely : Prop := voteNeverRow.holds Tryz.pinned (OpenSpec.ofChange voteNeverWrong)

/-- 'hopperlaw14.VoteRows': WHATEVER THE INPUT: true; the input reads as it did. -/
def voteRowsSpec : ChangeSpec := { name := "voteRows", fn := fun _ => fun
  | [d] => { results := [.lit (.bool true)], args := [d] }
  | _ => none }
def voteRowsRow : OpenClaim := { program := "ytinnifhnabncfaagreatdoor", sum := "701ddda712e2d06500af81db4ede8d7b329b5c85b50b56c0bd15cd57b224af1b", func := "hopper/hopperlaw14.VoteRows", spec := "voteRows", inPlace := ["internal/bytealg.CountString", "internal/bytealg.IndexByteString", "internal/bytealg.IndexString", "internal/abi.NoEscape", "internal/bytealg.MakeNoZero"], unfollowed := true, recurses := true, named := ["unicode/utf8.first", "unicode/utf8.acceptRanges", "internal/bytealg.MaxLen"], plainKeys := false, apart := false, laid := [("unicode/utf8.acceptRanges", laid_unicode_utf8_acceptRanges), ("unicode/utf8.first", laid_unicode_utf8_first)] }
def VoteRowsSaid : Prop := voteRowsRow.holds Tryz.pinned (OpenSpec.ofChange voteRowsSpec)

/-- ITS FALSE NEIGHBOUR: 'it returns false'. Refute it at one input. -/
def voteRowsWrong : ChangeSpec := { name := "voteRows", fn := fun _ => fun
  | [d] => { results := [.lit (.bool false)], args := [d] }
  | _ => none }
def VoteRowsWrongFalsely : Prop := voteRowsRow.holds Tryz.pinned (OpenSpec.ofChange voteRowsWrong)

/-- 'hopperlaw14.VoteNumbers': WHATEVER THE INPUT: true; the input reads as it did. -/
def voteNumbersSpec : ChangeSpec := { name := "voteNumbers", fn := fun _ => fun
  | [] => { results := [.lit (.bool true)], args := [] }
  | _ => none }
def voteNumbersRow : OpenClaim := { program := "ytinnifhnabncfaagreatdoor", sum := "701ddda712e2d06500af81db4ede8d7b329b5c85b50b56c0bd15cd57b224af1b", func := "hopper/hopperlaw14.VoteNumbers", spec := "voteNumbers", inPlace := ["internal/bytealg.CountString", "internal/bytealg.IndexByteString", "internal/bytealg.IndexString", "internal/abi.NoEscape", "internal/bytealg.MakeNoZero"], unfollowed := true, recurses := true, named := ["unicode/utf8.first", "unicode/utf8.acceptRanges", "internal/bytealg.MaxLen"], plainKeys := false, apart := false, laid := [("unicode/utf8.acceptRanges", laid_unicode_utf8_acceptRanges), ("unicode/utf8.first", laid_unicode_utf8_first)] }
def VoteNumbersSaid : Prop := voteNumbersRow.holds Tryz.pinned (OpenSpec.ofChange voteNumbersSpec)

/-- ITS FALSE NEIGHBOUR: 'it returns false'. Refute it at one input. -/
def voteNumbersWrong : ChangeSpec := { name := "voteNumbers", fn := fun _ => fun
  | [] => { results := [.lit (.bool false)], args := [] }
  | _ => none }
def VoteNumbersWrongFalsely : Prop := voteNumbersRow.holds Tryz.pinned (OpenSpec.ofChange voteNumbersWrong)

/-- 'hopperlaw14.VotePlays': WHATEVER THE INPUT: true; the input reads as it did. -/
def votePlaysSpec : ChangeSpec := { name := "votePlays", fn := fun _ => fun
  | [d1, d2, d3] => { results := [.lit (.bool true)], args := [d1, d2, d3] }
  | _ => none }
def votePlaysRow : OpenClaim := { program := "ytinnifhnabncfaagreatdoor", sum := "701ddda712e2d06500af81db4ede8d7b329b5c85b50b56c0bd15cd57b224af1b", func := "hopper/hopperlaw14.VotePlays", spec := "votePlays", inPlace := ["internal/bytealg.CountString", "internal/bytealg.IndexByteString", "internal/bytealg.IndexString", "internal/abi.NoEscape", "internal/bytealg.MakeNoZero"], unfollowed := true, recurses := true, named := ["unicode/utf8.first", "unicode/utf8.acceptRanges", "internal/bytealg.MaxLen"], plainKeys := false, apart := false, laid := [("unicode/utf8.acceptRanges", laid_unicode_utf8_acceptRanges), ("unicode/utf8.first", laid_unicode_utf8_first)] }
def VotePlaysSaid : Prop := votePlaysRow.holds Tryz.pinned (OpenSpec.ofChange votePlaysSpec)

/-- ITS FALSE NEIGHBOUR: 'it returns false'. Refute it at one input. -/
def votePlaysWrong : ChangeSpec := { name := "votePlays", fn := fun _ => fun
  | [d1, d2, d3] => { results := [.lit (.bool false)], args := [d1, d2, d3] }
  | _ => none }
def VotePlaysWrongFalsely : Prop := votePlaysRow.holds Tryz.pinned (OpenSpec.ofChange votePlaysWrong)

/-- 'hopperlaw6.MailNumbers': WHATEVER THE INPUT: true; the input reads as it did. -/
def mailNumbersSpec : ChangeSpec := { name := "mailNumbers", fn := fun _ => fun
  | [] => { results := [.lit (.bool true)], args := [] }
  | _ => none }
def mailNumbersRow : OpenClaim := { program := "ytinnifhnabncfaagreatdoor", sum := "701ddda712e2d06500af81db4ede8d7b329b5c85b50b56c0bd15cd57b224af1b", func := "hopper/hopperlaw6.MailNumbers", spec := "mailNumbers", inPlace := ["internal/bytealg.CountString", "internal/bytealg.IndexByteString", "internal/bytealg.IndexString", "internal/abi.NoEscape", "internal/bytealg.MakeNoZero"], unfollowed := true, recurses := true, named := ["unicode/utf8.first", "unicode/utf8.acceptRanges", "internal/bytealg.MaxLen"], plainKeys := false, apart := false, laid := [("unicode/utf8.acceptRanges", laid_unicode_utf8_acceptRanges), ("unicode/utf8.first", laid_unicode_utf8_first)] }
def MailNumbersSaid : Prop := mailNumbersRow.holds Tryz.pinned (OpenSpec.ofChange mailNumbersSpec)

/-- ITS FALSE NEIGHBOUR: 'it returns false'. Refute it at one input. -/
def mailNumbersWrong : ChangeSpec := { name := "mailNumbers", fn := fun _ => fun
  | [] => { results := [.lit (.bool false)], args := [] }
  | _ => none }
def MailNumbersWrongFalsely : Prop := mailNumbersRow.holds Tryz.pinned (OpenSpec.ofChange mailNumbersWrong)

/-- 'hopperlaw6.MailTells': WHATEVER THE INPUT: true; the input reads as it did. -/
def mailTellsSpec : ChangeSpec := { name := "mailTells", fn := fun _ => fun
  | [d1, d2, d3, d4, d5, d6, d7] => { results := [.lit (.bool true)], args := [d1, d2, d3, d4, d5, d6, d7] }
  | _ => none }
def mailTellsRow : OpenClaim := { program := "ytinnifhnabncfaagreatdoor", sum := "701ddda712e2d06500af81db4ede8d7b329b5c85b50b56c0bd15cd57b224af1b", func := "hopper/hopperlaw6.MailTells", spec := "mailTells", inPlace := ["internal/bytealg.CountString", "internal/bytealg.IndexByteString", "internal/bytealg.IndexString", "internal/abi.NoEscape", "internal/bytealg.MakeNoZero"], unfollowed := true, recurses := true, named := ["unicode/utf8.first", "unicode/utf8.acceptRanges", "internal/bytealg.MaxLen"], plainKeys := false, apart := false, laid := [("unicode/utf8.acceptRanges", laid_unicode_utf8_acceptRanges), ("unicode/utf8.first", laid_unicode_utf8_first)] }
def MailTellsSaid : Prop := mailTellsRow.holds Tryz.pinned (OpenSpec.ofChange mailTellsSpec)

/-- ITS FALSE NEIGHBOUR: 'it returns false'. Refute it at one input. -/
def mailTellsWrong : ChangeSpec := { name := "mailTells", fn := fun _ => fun
  | [d1, d2, d3, d4, d5, d6, d7] => { results := [.lit (.bool false)], args := [d1, d2, d3, d4, d5, d6, d7] }
  | _ => none }
def MailTellsWrongFalsely : Prop := mailTellsRow.holds Tryz.pinned (OpenSpec.ofChange mailTellsWrong)

/-- 'hopperlaw6.MailBack': WHATEVER THE INPUT: true; the input reads as it did. -/
def mailBackSpec : ChangeSpec := { name := "mailBack", fn := fun _ => fun
  | [d1, d2, d3] => { results := [.lit (.bool true)], args := [d1, d2, d3] }
  | _ => none }
def mailBackRow : OpenClaim := { program := "ytinnifhnabncfaagreatdoor", sum := "701ddda712e2d06500af81db4ede8d7b329b5c85b50b56c0bd15cd57b224af1b", func := "hopper/hopperlaw6.MailBack", spec := "mailBack", inPlace := ["internal/bytealg.CountString", "internal/bytealg.IndexByteString", "internal/bytealg.IndexString", "internal/abi.NoEscape", "internal/bytealg.MakeNoZero"], unfollowed := true, recurses := true, named := ["unicode/utf8.first", "unicode/utf8.acceptRanges", "internal/bytealg.MaxLen"], plainKeys := false, apart := false, laid := [("unicode/utf8.acceptRanges", laid_unicode_utf8_acceptRanges), ("unicode/utf8.first", laid_unicode_utf8_first)] }
def MailBackSaid : Prop := mailBackRow.holds Tryz.pinned (OpenSpec.ofChange mailBackSpec)

/-- ITS FALSE NEIGHBOUR: 'it returns false'. Refute it at one input. -/
def mailBackWrong : ChangeSpec := { name := "mailBack", fn := fun _ => fun
  | [d1, d2, d3] => { results := [.lit (.bool false)], args := [d1, d2, d3] }
  | _ => none }
def MailBackWrongFalsely : Prop := mailBackRow.holds Tryz.pinned (OpenSpec.ofChange mailBackWrong)

/-- 'hopperlaw13.MachineFences': WHATEVER THE INPUT: true; the input reads as it did. -/
def machineFencesSpec : ChangeSpec := { name := "machineFences", fn := fun _ => fun
  | [d1, d2] => { results := [.lit (.bool true)], args := [d1, d2] }
  | _ => none }
def machineFencesRow : OpenClaim := { program := "ytinnifhnabncfaagreatdoor", sum := "701ddda712e2d06500af81db4ede8d7b329b5c85b50b56c0bd15cd57b224af1b", func := "hopper/hopperlaw13.MachineFences", spec := "machineFences", inPlace := ["internal/bytealg.CountString", "internal/bytealg.IndexByteString", "internal/bytealg.IndexString", "internal/abi.NoEscape", "internal/bytealg.MakeNoZero"], unfollowed := true, recurses := true, named := ["unicode/utf8.first", "unicode/utf8.acceptRanges", "internal/bytealg.MaxLen"], plainKeys := false, apart := false, laid := [("unicode/utf8.acceptRanges", laid_unicode_utf8_acceptRanges), ("unicode/utf8.first", laid_unicode_utf8_first)] }
def MachineFencesSaid : Prop := machineFencesRow.holds Tryz.pinned (OpenSpec.ofChange machineFencesSpec)

/-- ITS FALSE NEIGHBOUR: 'it returns false'. Refute it at one input. -/
def machineFencesWrong : ChangeSpec := { name := "machineFences", fn := fun _ => fun
  | [d1, d2] => { results := [.lit (.bool false)], args := [d1, d2] }
  | _ => none }
def MachineFencesWrongFalsely : Prop := machineFencesRow.holds Tryz.pinned (OpenSpec.ofChange machineFencesWrong)

/-- 'hopperlaw13.MachineOnce': WHATEVER THE INPUT: true; the input reads as it did. -/
def machineOnceSpec : ChangeSpec := { name := "machineOnce", fn := fun _ => fun
  | [d1, d2] => { results := [.lit (.bool true)], args := [d1, d2] }
  | _ => none }
def machineOnceRow : OpenClaim := { program := "ytinnifhnabncfaagreatdoor", sum := "701ddda712e2d06500af81db4ede8d7b329b5c85b50b56c0bd15cd57b224af1b", func := "hopper/hopperlaw13.MachineOnce", spec := "machineOnce", inPlace := ["internal/bytealg.CountString", "internal/bytealg.IndexByteString", "internal/bytealg.IndexString", "internal/abi.NoEscape", "internal/bytealg.MakeNoZero"], unfollowed := true, recurses := true, named := ["unicode/utf8.first", "unicode/utf8.acceptRanges", "internal/bytealg.MaxLen"], plainKeys := false, apart := false, laid := [("unicode/utf8.acceptRanges", laid_unicode_utf8_acceptRanges), ("unicode/utf8.first", laid_unicode_utf8_first)] }
def MachineOnceSaid : Prop := machineOnceRow.holds Tryz.pinned (OpenSpec.ofChange machineOnceSpec)

/-- ITS FALSE NEIGHBOUR: 'it returns false'. Refute it at one input. -/
def machineOnceWrong : ChangeSpec := { name := "machineOnce", fn := fun _ => fun
  | [d1, d2] => { results := [.lit (.bool false)], args := [d1, d2] }
  | _ => none }
def MachineOnceWrongFalsely : Prop := machineOnceRow.holds Tryz.pinned (OpenSpec.ofChange machineOnceWrong)

/-- 'hopperlaw13.MachineReads': WHATEVER THE INPUT: true; the input reads as it did. -/
def machineReadsSpec : ChangeSpec := { name := "machineReads", fn := fun _ => fun
  | [d1, d2] => { results := [.lit (.bool true)], args := [d1, d2] }
  | _ => none }
def machineReadsRow : OpenClaim := { program := "ytinnifhnabncfaagreatdoor", sum := "701ddda712e2d06500af81db4ede8d7b329b5c85b50b56c0bd15cd57b224af1b", func := "hopper/hopperlaw13.MachineReads", spec := "machineReads", inPlace := ["internal/bytealg.CountString", "internal/bytealg.IndexByteString", "internal/bytealg.IndexString", "internal/abi.NoEscape", "internal/bytealg.MakeNoZero"], unfollowed := true, recurses := true, named := ["unicode/utf8.first", "unicode/utf8.acceptRanges", "internal/bytealg.MaxLen"], plainKeys := false, apart := false, laid := [("unicode/utf8.acceptRanges", laid_unicode_utf8_acceptRanges), ("unicode/utf8.first", laid_unicode_utf8_first)] }
def MachineReadsSaid : Prop := machineReadsRow.holds Tryz.pinned (OpenSpec.ofChange machineReadsSpec)

/-- ITS FALSE NEIGHBOUR: 'it returns false'. Refute it at one input. -/
def machineReadsWrong : ChangeSpec := { name := "machineReads", fn := fun _ => fun
  | [d1, d2] => { results := [.lit (.bool false)], args := [d1, d2] }
  | _ => none }
def MachineReadsWrongFalsely : Prop := machineReadsRow.holds Tryz.pinned (OpenSpec.ofChange machineReadsWrong)

/- THE SECOND FORM. 'bulk': how many values and letters a reading holds, each counted each time it is reached (what is shared counts as often as it is met; a slice's spare places count too). A statement '..UptoSaid' is the law's where the arguments, and the package variables that the reading takes, are together of bulk at most 1048576: NARROWER than '..Said'. Prove '..Said' where nothing that the law and all that it calls make is longer than what came in: it says more and counts as full. Else prove '..UptoSaid'. A law counts once. -/
mutual
def uptoBulk {H : Type} : DataW H → Nat
  | .lit (.string bytes) => bytes.length + 1
  | .lit _ => 1
  | .nil => 1
  | .ptr d => uptoBulk d + 1
  | .slice elems spare => uptoBulkAll elems + uptoBulkAll spare + 1
  | .agg parts => uptoBulkAll parts + 1
  | .iface _ d => uptoBulk d + 1
  | .map entries => uptoBulkEntries entries + 1
  | .held _ => 1
def uptoBulkAll {H : Type} : List (DataW H) → Nat
  | [] => 0
  | d :: r => uptoBulk d + uptoBulkAll r
def uptoBulkEntries {H : Type} : List (Lit × DataW H) → Nat
  | [] => 0
  | x :: r => uptoBulkEntry x + uptoBulkEntries r
def uptoBulkEntry {H : Type} : Lit × DataW H → Nat
  | (.string bytes, d) => bytes.length + uptoBulk d + 1
  | (_, d) => uptoBulk d + 1
 end
def uptoSmall : (H : Type) → List (DataW H) → Bool := fun _ ds => decide (uptoBulkAll ds ≤ 1048576)
def OpenSpec.upto (s : _root_.Go.ChangeSpec) : _root_.Go.OpenSpec := { _root_.Go.OpenSpec.ofChange s with cond := some uptoSmall }

/-- 'hopperlaw4.EntryNumbers', WHERE WHAT IT READS IS OF BULK AT MOST 1048576: true; the input reads as it did. -/
def entryNumbersUptoRow : OpenClaim := { program := "ytinnifhnabncfaagreatdoor", sum := "701ddda712e2d06500af81db4ede8d7b329b5c85b50b56c0bd15cd57b224af1b", func := "hopper/hopperlaw4.EntryNumbers", spec := "entryNumbers", inPlace := ["internal/bytealg.CountString", "internal/bytealg.IndexByteString", "internal/bytealg.IndexString", "internal/abi.NoEscape", "internal/bytealg.MakeNoZero"], unfollowed := true, recurses := true, named := ["unicode/utf8.first", "unicode/utf8.acceptRanges", "internal/bytealg.MaxLen"], plainKeys := false, apart := false, laid := [("unicode/utf8.acceptRanges", laid_unicode_utf8_acceptRanges), ("unicode/utf8.first", laid_unicode_utf8_first)], narrowed := true }
def EntryNumbersUptoSaid : Prop := entryNumbersUptoRow.holds Tryz.pinned (OpenSpec.upto entryNumbersSpec)

/-- 'hopperlaw4.EntryTells', WHERE WHAT IT READS IS OF BULK AT MOST 1048576: true; the input reads as it did. -/
def entryTellsUptoRow : OpenClaim := { program := "ytinnifhnabncfaagreatdoor", sum := "701ddda712e2d06500af81db4ede8d7b329b5c85b50b56c0bd15cd57b224af1b", func := "hopper/hopperlaw4.EntryTells", spec := "entryTells", inPlace := ["internal/bytealg.CountString", "internal/bytealg.IndexByteString", "internal/bytealg.IndexString", "internal/abi.NoEscape", "internal/bytealg.MakeNoZero"], unfollowed := true, recurses := true, named := ["unicode/utf8.first", "unicode/utf8.acceptRanges", "internal/bytealg.MaxLen"], plainKeys := false, apart := false, laid := [("unicode/utf8.acceptRanges", laid_unicode_utf8_acceptRanges), ("unicode/utf8.first", laid_unicode_utf8_first)], narrowed := true }
def EntryTellsUptoSaid : Prop := entryTellsUptoRow.holds Tryz.pinned (OpenSpec.upto entryTellsSpec)

/-- 'hopperlaw14.VoteNever', WHERE WHAT IT READS IS OF BULK AT MOST 1048576: true; the input reads as it did. -/
def voteNeverUptoRow : OpenClaim := { program := "ytinnifhnabncfaagreatdoor", sum := "701ddda712e2d06500af81db4ede8d7b329b5c85b50b56c0bd15cd57b224af1b", func := "hopper/hopperlaw14.VoteNever", spec := "voteNever", inPlace := ["internal/bytealg.CountString", "internal/bytealg.IndexByteString", "internal/bytealg.IndexString", "internal/abi.NoEscape", "internal/bytealg.MakeNoZero"], unfollowed := true, recurses := true, named := ["unicode/utf8.first", "unicode/utf8.acceptRanges", "internal/bytealg.MaxLen"], plainKeys := false, apart := false, laid := [("unicode/utf8.acceptRanges", laid_unicode_utf8_acceptRanges), ("unicode/utf8.first", laid_unicode_utf8_first)], narrowed := true }
def VoteNeverUptoSaid : Prop := voteNeverUptoRow.holds Tryz.pinned (OpenSpec.upto voteNeverSpec)

/-- 'hopperlaw14.VoteRows', WHERE WHAT IT READS IS OF BULK AT MOST 1048576: true; the input reads as it did. -/
def voteRowsUptoRow : OpenClaim := { program := "ytinnifhnabncfaagreatdoor", sum := "701ddda712e2d06500af81db4ede8d7b329b5c85b50b56c0bd15cd57b224af1b", func := "hopper/hopperlaw14.VoteRows", spec := "voteRows", inPlace := ["internal/bytealg.CountString", "internal/bytealg.IndexByteString", "internal/bytealg.IndexString", "internal/abi.NoEscape", "internal/bytealg.MakeNoZero"], unfollowed := true, recurses := true, named := ["unicode/utf8.first", "unicode/utf8.acceptRanges", "internal/bytealg.MaxLen"], plainKeys := false, apart := false, laid := [("unicode/utf8.acceptRanges", laid_unicode_utf8_acceptRanges), ("unicode/utf8.first", laid_unicode_utf8_first)], narrowed := true }
def VoteRowsUptoSaid : Prop := voteRowsUptoRow.holds Tryz.pinned (OpenSpec.upto voteRowsSpec)

/-- 'hopperlaw14.VoteNumbers', WHERE WHAT IT READS IS OF BULK AT MOST 1048576: true; the input reads as it did. -/
def voteNumbersUptoRow : OpenClaim := { program := "ytinnifhnabncfaagreatdoor", sum := "701ddda712e2d06500af81db4ede8d7b329b5c85b50b56c0bd15cd57b224af1b", func := "hopper/hopperlaw14.VoteNumbers", spec := "voteNumbers", inPlace := ["internal/bytealg.CountString", "internal/bytealg.IndexByteString", "internal/bytealg.IndexString", "internal/abi.NoEscape", "internal/bytealg.MakeNoZero"], unfollowed := true, recurses := true, named := ["unicode/utf8.first", "unicode/utf8.acceptRanges", "internal/bytealg.MaxLen"], plainKeys := false, apart := false, laid := [("unicode/utf8.acceptRanges", laid_unicode_utf8_acceptRanges), ("unicode/utf8.first", laid_unicode_utf8_first)], narrowed := true }
def VoteNumbersUptoSaid : Prop := voteNumbersUptoRow.holds Tryz.pinned (OpenSpec.upto voteNumbersSpec)

/-- 'hopperlaw14.VotePlays', WHERE WHAT IT READS IS OF BULK AT MOST 1048576: true; the input reads as it did. -/
def votePlaysUptoRow : OpenClaim := { program := "ytinnifhnabncfaagreatdoor", sum := "701ddda712e2d06500af81db4ede8d7b329b5c85b50b56c0bd15cd57b224af1b", func := "hopper/hopperlaw14.VotePlays", spec := "votePlays", inPlace := ["internal/bytealg.CountString", "internal/bytealg.IndexByteString", "internal/bytealg.IndexString", "internal/abi.NoEscape", "internal/bytealg.MakeNoZero"], unfollowed := true, recurses := true, named := ["unicode/utf8.first", "unicode/utf8.acceptRanges", "internal/bytealg.MaxLen"], plainKeys := false, apart := false, laid := [("unicode/utf8.acceptRanges", laid_unicode_utf8_acceptRanges), ("unicode/utf8.first", laid_unicode_utf8_first)], narrowed := true }
def VotePlaysUptoSaid : Prop := votePlaysUptoRow.holds Tryz.pinned (OpenSpec.upto votePlaysSpec)

/-- 'hopperlaw6.MailNumbers', WHERE WHAT IT READS IS OF BULK AT MOST 1048576: true; the input reads as it did. -/
def mailNumbersUptoRow : OpenClaim := { program := "ytinnifhnabncfaagreatdoor", sum := "701ddda712e2d06500af81db4ede8d7b329b5c85b50b56c0bd15cd57b224af1b", func := "hopper/hopperlaw6.MailNumbers", spec := "mailNumbers", inPlace := ["internal/bytealg.CountString", "internal/bytealg.IndexByteString", "internal/bytealg.IndexString", "internal/abi.NoEscape", "internal/bytealg.MakeNoZero"], unfollowed := true, recurses := true, named := ["unicode/utf8.first", "unicode/utf8.acceptRanges", "internal/bytealg.MaxLen"], plainKeys := false, apart := false, laid := [("unicode/utf8.acceptRanges", laid_unicode_utf8_acceptRanges), ("unicode/utf8.first", laid_unicode_utf8_first)], narrowed := true }
def MailNumbersUptoSaid : Prop := mailNumbersUptoRow.holds Tryz.pinned (OpenSpec.upto mailNumbersSpec)

/-- 'hopperlaw6.MailTells', WHERE WHAT IT READS IS OF BULK AT MOST 1048576: true; the input reads as it did. -/
def mailTellsUptoRow : OpenClaim := { program := "ytinnifhnabncfaagreatdoor", sum := "701ddda712e2d06500af81db4ede8d7b329b5c85b50b56c0bd15cd57b224af1b", func := "hopper/hopperlaw6.MailTells", spec := "mailTells", inPlace := ["internal/bytealg.CountString", "internal/bytealg.IndexByteString", "internal/bytealg.IndexString", "internal/abi.NoEscape", "internal/bytealg.MakeNoZero"], unfollowed := true, recurses := true, named := ["unicode/utf8.first", "unicode/utf8.acceptRanges", "internal/bytealg.MaxLen"], plainKeys := false, apart := false, laid := [("unicode/utf8.acceptRanges", laid_unicode_utf8_acceptRanges), ("unicode/utf8.first", laid_unicode_utf8_first)], narrowed := true }
def MailTellsUptoSaid : Prop := mailTellsUptoRow.holds Tryz.pinned (OpenSpec.upto mailTellsSpec)

/-- 'hopperlaw6.MailBack', WHERE WHAT IT READS IS OF BULK AT MOST 1048576: true; the input reads as it did. -/
def mailBackUptoRow : OpenClaim := { program := "ytinnifhnabncfaagreatdoor", sum := "701ddda712e2d06500af81db4ede8d7b329b5c85b50b56c0bd15cd57b224af1b", func := "hopper/hopperlaw6.MailBack", spec := "mailBack", inPlace := ["internal/bytealg.CountString", "internal/bytealg.IndexByteString", "internal/bytealg.IndexString", "internal/abi.NoEscape", "internal/bytealg.MakeNoZero"], unfollowed := true, recurses := true, named := ["unicode/utf8.first", "unicode/utf8.acceptRanges", "internal/bytealg.MaxLen"], plainKeys := false, apart := false, laid := [("unicode/utf8.acceptRanges", laid_unicode_utf8_acceptRanges), ("unicode/utf8.first", laid_unicode_utf8_first)], narrowed := true }
def MailBackUptoSaid : Prop := mailBackUptoRow.holds Tryz.pinned (OpenSpec.upto mailBackSpec)

/-- 'hopperlaw13.MachineFences', WHERE WHAT IT READS IS OF BULK AT MOST 1048576: true; the input reads as it did. -/
def machineFencesUptoRow : OpenClaim := { program := "ytinnifhnabncfaagreatdoor", sum := "701ddda712e2d06500af81db4ede8d7b329b5c85b50b56c0bd15cd57b224af1b", func := "hopper/hopperlaw13.MachineFences", spec := "machineFences", inPlace := ["internal/bytealg.CountString", "internal/bytealg.IndexByteString", "internal/bytealg.IndexString", "internal/abi.NoEscape", "internal/bytealg.MakeNoZero"], unfollowed := true, recurses := true, named := ["unicode/utf8.first", "unicode/utf8.acceptRanges", "internal/bytealg.MaxLen"], plainKeys := false, apart := false, laid := [("unicode/utf8.acceptRanges", laid_unicode_utf8_acceptRanges), ("unicode/utf8.first", laid_unicode_utf8_first)], narrowed := true }
def MachineFencesUptoSaid : Prop := machineFencesUptoRow.holds Tryz.pinned (OpenSpec.upto machineFencesSpec)

/-- 'hopperlaw13.MachineOnce', WHERE WHAT IT READS IS OF BULK AT MOST 1048576: true; the input reads as it did. -/
def machineOnceUptoRow : OpenClaim := { program := "ytinnifhnabncfaagreatdoor", sum := "701ddda712e2d06500af81db4ede8d7b329b5c85b50b56c0bd15cd57b224af1b", func := "hopper/hopperlaw13.MachineOnce", spec := "machineOnce", inPlace := ["internal/bytealg.CountString", "internal/bytealg.IndexByteString", "internal/bytealg.IndexString", "internal/abi.NoEscape", "internal/bytealg.MakeNoZero"], unfollowed := true, recurses := true, named := ["unicode/utf8.first", "unicode/utf8.acceptRanges", "internal/bytealg.MaxLen"], plainKeys := false, apart := false, laid := [("unicode/utf8.acceptRanges", laid_unicode_utf8_acceptRanges), ("unicode/utf8.first", laid_unicode_utf8_first)], narrowed := true }
def MachineOnceUptoSaid : Prop := machineOnceUptoRow.holds Tryz.pinned (OpenSpec.upto machineOnceSpec)

/-- 'hopperlaw13.MachineReads', WHERE WHAT IT READS IS OF BULK AT MOST 1048576: true; the input reads as it did. -/
def machineReadsUptoRow : OpenClaim := { program := "ytinnifhnabncfaagreatdoor", sum := "701ddda712e2d06500af81db4ede8d7b329b5c85b50b56c0bd15cd57b224af1b", func := "hopper/hopperlaw13.MachineReads", spec := "machineReads", inPlace := ["internal/bytealg.CountString", "internal/bytealg.IndexByteString", "internal/bytealg.IndexString", "internal/abi.NoEscape", "internal/bytealg.MakeNoZero"], unfollowed := true, recurses := true, named := ["unicode/utf8.first", "unicode/utf8.acceptRanges", "internal/bytealg.MaxLen"], plainKeys := false, apart := false, laid := [("unicode/utf8.acceptRanges", laid_unicode_utf8_acceptRanges), ("unicode/utf8.first", laid_unicode_utf8_first)], narrowed := true }
def MachineReadsUptoSaid : Prop := machineReadsUptoRow.holds Tryz.pinned (OpenSpec.upto machineReadsSpec)

end Rows
end Go.Proofs.YtinnifhnabncfaaGreatDoor
