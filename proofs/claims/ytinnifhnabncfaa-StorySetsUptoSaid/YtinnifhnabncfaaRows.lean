/-
  No cell of these rows narrows 'for every input' (looked for: loops, veiled, ifaces, maps, wideKeys, modest, calm, conditions, laid).
  DERIVED. THE GIVEN ROWS OF THIS SEAT. 10 by the template 'for every input the law returns true; each argument reads behind the call as it read before'; 0 by the template 'total and deterministic' (their statements: YtinnifhnabncfaaTotals.lean).
  GIVEN WITH THE SEED: the statements are not yours to turn. If you find one false, say at which input.
  Laid BY PROGRAM, IN A SANDBOX (cutbox-rows.mjs): the forced cells as the released guide's own fill.sh prints them over the translation 7e5d313b21030628… (all of the seat's roots in one cut). By AI agents, Wed Nov 11 2026. No macro, syntax, notation, axiom, sorry.
-/
import Derived.Test.YtinnifhnabncfaaChecked
import GoSem.Claim
import GoSem.ClaimJoined
import GoSem.ClaimMapViews
import Derived.JoinedTies
import Derived.KernelRfl
namespace Go.Proofs.Ytinnifhnabncfaa
/- THE CELL 'sum', in the pinned program and in every row, IS THE sha256 OF THE DUMP (.gsa) THAT YtinnifhnabncfaaProg.lean LOADS. Nothing in Lean hashes anything: it is a label: what it is worth is what the hold of that sum in a sandbox is worth. -/
noncomputable def Try.pinned : Pinned := { name := "ytinnifhnabncfaa", sum := "7e5d313b210306283dd8a8e8a05499371fcabd3db8bc60666272993400a1fdec", checked := Try.checked }
namespace Rows
def none {H : Type} : Left H := { results := [], args := [] }

/-- 'hopperlaw17.DrawNumbers': WHATEVER THE INPUT: true; the input reads as it did. -/
def drawNumbersSpec : ChangeSpec := { name := "drawNumbers", fn := fun _ => fun
  | [] => { results := [.lit (.bool true)], args := [] }
  | _ => none }
def drawNumbersRow : OpenClaim := { program := "ytinnifhnabncfaa", sum := "7e5d313b210306283dd8a8e8a05499371fcabd3db8bc60666272993400a1fdec", func := "hopper/hopperlaw17.DrawNumbers", spec := "drawNumbers", apart := false }
def DrawNumbersSaid : Prop := drawNumbersRow.holds Try.pinned (OpenSpec.ofChange drawNumbersSpec)

/-- ITS FALSE NEIGHBOUR: 'it returns false'. Refute it at one input. -/
def drawNumbersWrong : ChangeSpec := { name := "drawNumbers", fn := fun _ => fun
  | [] => { results := [.lit (.bool false)], args := [] }
  | _ => none }
def DrawNumbersWrongFalsely : Prop := drawNumbersRow.holds Try.pinned (OpenSpec.ofChange drawNumbersWrong)

/-- 'hopperlaw17.DrawTells': WHATEVER THE INPUT: true; the input reads as it did. -/
def drawTellsSpec : ChangeSpec := { name := "drawTells", fn := fun _ => fun
  | [d1, d2, d3, d4, d5] => { results := [.lit (.bool true)], args := [d1, d2, d3, d4, d5] }
  | _ => none }
def drawTellsRow : OpenClaim := { program := "ytinnifhnabncfaa", sum := "7e5d313b210306283dd8a8e8a05499371fcabd3db8bc60666272993400a1fdec", func := "hopper/hopperlaw17.DrawTells", spec := "drawTells", apart := false }
def DrawTellsSaid : Prop := drawTellsRow.holds Try.pinned (OpenSpec.ofChange drawTellsSpec)

/-- ITS FALSE NEIGHBOUR: 'it returns false'. Refute it at one input. -/
def drawTellsWrong : ChangeSpec := { name := "drawTells", fn := fun _ => fun
  | [d1, d2, d3, d4, d5] => { results := [.lit (.bool false)], args := [d1, d2, d3, d4, d5] }
  | _ => none }
def DrawTellsWrongFalsely : Prop := drawTellsRow.holds Try.pinned (OpenSpec.ofChange drawTellsWrong)

/-- 'hopperlaw17.DrawWithin': WHATEVER THE INPUT: true; the input reads as it did. -/
def drawWithinSpec : ChangeSpec := { name := "drawWithin", fn := fun _ => fun
  | [d1, d2, d3, d4, d5] => { results := [.lit (.bool true)], args := [d1, d2, d3, d4, d5] }
  | _ => none }
def drawWithinRow : OpenClaim := { program := "ytinnifhnabncfaa", sum := "7e5d313b210306283dd8a8e8a05499371fcabd3db8bc60666272993400a1fdec", func := "hopper/hopperlaw17.DrawWithin", spec := "drawWithin", apart := false }
def DrawWithinSaid : Prop := drawWithinRow.holds Try.pinned (OpenSpec.ofChange drawWithinSpec)

/-- ITS FALSE NEIGHBOUR: 'it returns false'. Refute it at one input. -/
def drawWithinWrong : ChangeSpec := { name := "drawWithin", fn := fun _ => fun
  | [d1, d2, d3, d4, d5] => { results := [.lit (.bool false)], args := [d1, d2, d3, d4, d5] }
  | _ => none }
def DrawWithinWrongFalsely : Prop := drawWithinRow.holds Try.pinned (OpenSpec.ofChange drawWithinWrong)

/-- 'hopperlaw17.DrawSpreads': WHATEVER THE INPUT: true; the input reads as it did. -/
def drawSpreadsSpec : ChangeSpec := { name := "drawSpreads", fn := fun _ => fun
  | [d1, d2] => { results := [.lit (.bool true)], args := [d1, d2] }
  | _ => none }
def drawSpreadsRow : OpenClaim := { program := "ytinnifhnabncfaa", sum := "7e5d313b210306283dd8a8e8a05499371fcabd3db8bc60666272993400a1fdec", func := "hopper/hopperlaw17.DrawSpreads", spec := "drawSpreads", apart := false }
def DrawSpreadsSaid : Prop := drawSpreadsRow.holds Try.pinned (OpenSpec.ofChange drawSpreadsSpec)

/-- ITS FALSE NEIGHBOUR: 'it returns false'. Refute it at one input. -/
def drawSpreadsWrong : ChangeSpec := { name := "drawSpreads", fn := fun _ => fun
  | [d1, d2] => { results := [.lit (.bool false)], args := [d1, d2] }
  | _ => none }
def DrawSpreadsWrongFalsely : Prop := drawSpreadsRow.holds Try.pinned (OpenSpec.ofChange drawSpreadsWrong)

/-- 'hopperlaw15.LeadNumbers': WHATEVER THE INPUT: true; the input reads as it did. -/
def leadNumbersSpec : ChangeSpec := { name := "leadNumbers", fn := fun _ => fun
  | [] => { results := [.lit (.bool true)], args := [] }
  | _ => none }
def leadNumbersRow : OpenClaim := { program := "ytinnifhnabncfaa", sum := "7e5d313b210306283dd8a8e8a05499371fcabd3db8bc60666272993400a1fdec", func := "hopper/hopperlaw15.LeadNumbers", spec := "leadNumbers", recurses := true, apart := false }
def LeadNumbersSaid : Prop := leadNumbersRow.holds Try.pinned (OpenSpec.ofChange leadNumbersSpec)

/-- ITS FALSE NEIGHBOUR: 'it returns false'. Refute it at one input. -/
def leadNumbersWrong : ChangeSpec := { name := "leadNumbers", fn := fun _ => fun
  | [] => { results := [.lit (.bool false)], args := [] }
  | _ => none }
def LeadNumbersWrongFalsely : Prop := leadNumbersRow.holds Try.pinned (OpenSpec.ofChange leadNumbersWrong)

/-- 'hopperlaw15.LeadAlone': WHATEVER THE INPUT: true; the input reads as it did. -/
def leadAloneSpec : ChangeSpec := { name := "leadAlone", fn := fun _ => fun
  | [d1, d2, d3] => { results := [.lit (.bool true)], args := [d1, d2, d3] }
  | _ => none }
def leadAloneRow : OpenClaim := { program := "ytinnifhnabncfaa", sum := "7e5d313b210306283dd8a8e8a05499371fcabd3db8bc60666272993400a1fdec", func := "hopper/hopperlaw15.LeadAlone", spec := "leadAlone", recurses := true, apart := false }
def LeadAloneSaid : Prop := leadAloneRow.holds Try.pinned (OpenSpec.ofChange leadAloneSpec)

/-- ITS FALSE NEIGHBOUR: 'it returns false'. Refute it at one input. -/
def leadAloneWrong : ChangeSpec := { name := "leadAlone", fn := fun _ => fun
  | [d1, d2, d3] => { results := [.lit (.bool false)], args := [d1, d2, d3] }
  | _ => none }
def LeadAloneWrongFalsely : Prop := leadAloneRow.holds Try.pinned (OpenSpec.ofChange leadAloneWrong)

/-- 'hopperlaw15.LeadBest': WHATEVER THE INPUT: true; the input reads as it did. -/
def leadBestSpec : ChangeSpec := { name := "leadBest", fn := fun _ => fun
  | [d1, d2] => { results := [.lit (.bool true)], args := [d1, d2] }
  | _ => none }
def leadBestRow : OpenClaim := { program := "ytinnifhnabncfaa", sum := "7e5d313b210306283dd8a8e8a05499371fcabd3db8bc60666272993400a1fdec", func := "hopper/hopperlaw15.LeadBest", spec := "leadBest", recurses := true, apart := false }
def LeadBestSaid : Prop := leadBestRow.holds Try.pinned (OpenSpec.ofChange leadBestSpec)

/-- ITS FALSE NEIGHBOUR: 'it returns false'. Refute it at one input. -/
def leadBestWrong : ChangeSpec := { name := "leadBest", fn := fun _ => fun
  | [d1, d2] => { results := [.lit (.bool false)], args := [d1, d2] }
  | _ => none }
def LeadBestWrongFalsely : Prop := leadBestRow.holds Try.pinned (OpenSpec.ofChange leadBestWrong)

/-- 'hopperlaw15.LeadMost': WHATEVER THE INPUT: true; the input reads as it did. -/
def leadMostSpec : ChangeSpec := { name := "leadMost", fn := fun _ => fun
  | [d1, d2] => { results := [.lit (.bool true)], args := [d1, d2] }
  | _ => none }
def leadMostRow : OpenClaim := { program := "ytinnifhnabncfaa", sum := "7e5d313b210306283dd8a8e8a05499371fcabd3db8bc60666272993400a1fdec", func := "hopper/hopperlaw15.LeadMost", spec := "leadMost", recurses := true, apart := false }
def LeadMostSaid : Prop := leadMostRow.holds Try.pinned (OpenSpec.ofChange leadMostSpec)

/-- ITS FALSE NEIGHBOUR: 'it returns false'. Refute it at one input. -/
def leadMostWrong : ChangeSpec := { name := "leadMost", fn := fun _ => fun
  | [d1, d2] => { results := [.lit (.bool false)], args := [d1, d2] }
  | _ => none }
def LeadMostWrongFalsely : Prop := leadMostRow.holds Try.pinned (OpenSpec.ofChange leadMostWrong)

/-- 'hopperlaw15.LeadTwice': WHATEVER THE INPUT: true; the input reads as it did. -/
def leadTwiceSpec : ChangeSpec := { name := "leadTwice", fn := fun _ => fun
  | [d1, d2] => { results := [.lit (.bool true)], args := [d1, d2] }
  | _ => none }
def leadTwiceRow : OpenClaim := { program := "ytinnifhnabncfaa", sum := "7e5d313b210306283dd8a8e8a05499371fcabd3db8bc60666272993400a1fdec", func := "hopper/hopperlaw15.LeadTwice", spec := "leadTwice", recurses := true, apart := false }
def LeadTwiceSaid : Prop := leadTwiceRow.holds Try.pinned (OpenSpec.ofChange leadTwiceSpec)

/-- ITS FALSE NEIGHBOUR: 'it returns false'. Refute it at one input. -/
def leadTwiceWrong : ChangeSpec := { name := "leadTwice", fn := fun _ => fun
  | [d1, d2] => { results := [.lit (.bool false)], args := [d1, d2] }
  | _ => none }
def LeadTwiceWrongFalsely : Prop := leadTwiceRow.holds Try.pinned (OpenSpec.ofChange leadTwiceWrong)

/-- 'hopperlaw22.StorySets': WHATEVER THE INPUT: true; the input reads as it did. -/
def storySetsSpec : ChangeSpec := { name := "storySets", fn := fun _ => fun
  | [d1, d2, d3] => { results := [.lit (.bool true)], args := [d1, d2, d3] }
  | _ => none }
def storySetsRow : OpenClaim := { program := "ytinnifhnabncfaa", sum := "7e5d313b210306283dd8a8e8a05499371fcabd3db8bc60666272993400a1fdec", func := "hopper/hopperlaw22.StorySets", spec := "storySets", unfollowed := true, recurses := true, apart := false }
def StorySetsSaid : Prop := storySetsRow.holds Try.pinned (OpenSpec.ofChange storySetsSpec)

/-- ITS FALSE NEIGHBOUR: 'it returns false'. Refute it at one input. -/
def storySetsWrong : ChangeSpec := { name := "storySets", fn := fun _ => fun
  | [d1, d2, d3] => { results := [.lit (.bool false)], args := [d1, d2, d3] }
  | _ => none }
def StorySetsWrongFalsely : Prop := storySetsRow.holds Try.pinned (OpenSpec.ofChange storySetsWrong)

/- THE SECOND FORM. 'bulk': how many values and letters a reading holds, each counted each time it is reached (what is shared counts as often as it is met; a slice's spare places count too). A statement '..UptoSaid' is the law's where the arguments, and the package variables that the reading takes, are together of bulk at most 1048576: NARROWER than '..Said'. Prove '..Said' where nothing that the law and all that it calls make is longer than what came in: it says more and counts as full. Else prove '..UptoSaid'. A law counts once. -/
mutual
def uptoBulk {H : Type} : DataW H → Nat
  | .lit (.string bytes) => bytes.length + 1
  | .lit _ => 1
  | .nil => 1
  | .ptr d => uptoBulk d + 1
  | .slice elems spare => uptoBulkAll elems + uptoBulkAll spare + 1
  | .agg parts => uptoBulkAll parts + 1
  | .iface _ d => uptoBulk d + 1
  | .map entries => uptoBulkEntries entries + 1
  | .held _ => 1
def uptoBulkAll {H : Type} : List (DataW H) → Nat
  | [] => 0
  | d :: r => uptoBulk d + uptoBulkAll r
def uptoBulkEntries {H : Type} : List (Lit × DataW H) → Nat
  | [] => 0
  | x :: r => uptoBulkEntry x + uptoBulkEntries r
def uptoBulkEntry {H : Type} : Lit × DataW H → Nat
  | (.string bytes, d) => bytes.length + uptoBulk d + 1
  | (_, d) => uptoBulk d + 1
 end
def uptoSmall : (H : Type) → List (DataW H) → Bool := fun _ ds => decide (uptoBulkAll ds ≤ 1048576)
def OpenSpec.upto (s : _root_.Go.ChangeSpec) : _root_.Go.OpenSpec := { _root_.Go.OpenSpec.ofChange s with cond := some uptoSmall }

/-- 'hopperlaw17.DrawNumbers', WHERE WHAT IT READS IS OF BULK AT MOST 1048576: true; the input reads as it did. -/
def drawNumbersUptoRow : OpenClaim := { program := "ytinnifhnabncfaa", sum := "7e5d313b210306283dd8a8e8a05499371fcabd3db8bc60666272993400a1fdec", func := "hopper/hopperlaw17.DrawNumbers", spec := "drawNumbers", apart := false, narrowed := true }
def DrawNumbersUptoSaid : Prop := drawNumbersUptoRow.holds Try.pinned (OpenSpec.upto drawNumbersSpec)

/-- 'hopperlaw17.DrawTells', WHERE WHAT IT READS IS OF BULK AT MOST 1048576: true; the input reads as it did. -/
def drawTellsUptoRow : OpenClaim := { program := "ytinnifhnabncfaa", sum := "7e5d313b210306283dd8a8e8a05499371fcabd3db8bc60666272993400a1fdec", func := "hopper/hopperlaw17.DrawTells", spec := "drawTells", apart := false, narrowed := true }
def DrawTellsUptoSaid : Prop := drawTellsUptoRow.holds Try.pinned (OpenSpec.upto drawTellsSpec)

/-- 'hopperlaw17.DrawWithin', WHERE WHAT IT READS IS OF BULK AT MOST 1048576: true; the input reads as it did. -/
def drawWithinUptoRow : OpenClaim := { program := "ytinnifhnabncfaa", sum := "7e5d313b210306283dd8a8e8a05499371fcabd3db8bc60666272993400a1fdec", func := "hopper/hopperlaw17.DrawWithin", spec := "drawWithin", apart := false, narrowed := true }
def DrawWithinUptoSaid : Prop := drawWithinUptoRow.holds Try.pinned (OpenSpec.upto drawWithinSpec)

/-- 'hopperlaw17.DrawSpreads', WHERE WHAT IT READS IS OF BULK AT MOST 1048576: true; the input reads as it did. -/
def drawSpreadsUptoRow : OpenClaim := { program := "ytinnifhnabncfaa", sum := "7e5d313b210306283dd8a8e8a05499371fcabd3db8bc60666272993400a1fdec", func := "hopper/hopperlaw17.DrawSpreads", spec := "drawSpreads", apart := false, narrowed := true }
def DrawSpreadsUptoSaid : Prop := drawSpreadsUptoRow.holds Try.pinned (OpenSpec.upto drawSpreadsSpec)

/-- 'hopperlaw15.LeadNumbers', WHERE WHAT IT READS IS OF BULK AT MOST 1048576: true; the input reads as it did. -/
def leadNumbersUptoRow : OpenClaim := { program := "ytinnifhnabncfaa", sum := "7e5d313b210306283dd8a8e8a05499371fcabd3db8bc60666272993400a1fdec", func := "hopper/hopperlaw15.LeadNumbers", spec := "leadNumbers", recurses := true, apart := false, narrowed := true }
def LeadNumbersUptoSaid : Prop := leadNumbersUptoRow.holds Try.pinned (OpenSpec.upto leadNumbersSpec)

/-- 'hopperlaw15.LeadAlone', WHERE WHAT IT READS IS OF BULK AT MOST 1048576: true; the input reads as it did. -/
def leadAloneUptoRow : OpenClaim := { program := "ytinnifhnabncfaa", sum := "7e5d313b210306283dd8a8e8a05499371fcabd3db8bc60666272993400a1fdec", func := "hopper/hopperlaw15.LeadAlone", spec := "leadAlone", recurses := true, apart := false, narrowed := true }
def LeadAloneUptoSaid : Prop := leadAloneUptoRow.holds Try.pinned (OpenSpec.upto leadAloneSpec)

/-- 'hopperlaw15.LeadBest', WHERE WHAT IT READS IS OF BULK AT MOST 1048576: true; the input reads as it did. -/
def leadBestUptoRow : OpenClaim := { program := "ytinnifhnabncfaa", sum := "7e5d313b210306283dd8a8e8a05499371fcabd3db8bc60666272993400a1fdec", func := "hopper/hopperlaw15.LeadBest", spec := "leadBest", recurses := true, apart := false, narrowed := true }
def LeadBestUptoSaid : Prop := leadBestUptoRow.holds Try.pinned (OpenSpec.upto leadBestSpec)

/-- 'hopperlaw15.LeadMost', WHERE WHAT IT READS IS OF BULK AT MOST 1048576: true; the input reads as it did. -/
def leadMostUptoRow : OpenClaim := { program := "ytinnifhnabncfaa", sum := "7e5d313b210306283dd8a8e8a05499371fcabd3db8bc60666272993400a1fdec", func := "hopper/hopperlaw15.LeadMost", spec := "leadMost", recurses := true, apart := false, narrowed := true }
def LeadMostUptoSaid : Prop := leadMostUptoRow.holds Try.pinned (OpenSpec.upto leadMostSpec)

/-- 'hopperlaw15.LeadTwice', WHERE WHAT IT READS IS OF BULK AT MOST 1048576: true; the input reads as it did. -/
def leadTwiceUptoRow : OpenClaim := { program := "ytinnifhnabncfaa", sum := "7e5d313b210306283dd8a8e8a05499371fcabd3db8bc60666272993400a1fdec", func := "hopper/hopperlaw15.LeadTwice", spec := "leadTwice", recurses := true, apart := false, narrowed := true }
def LeadTwiceUptoSaid : Prop := leadTwiceUptoRow.holds Try.pinned (OpenSpec.upto leadTwiceSpec)

/-- 'hopperlaw22.StorySets', WHERE WHAT IT READS IS OF BULK AT MOST 1048576: true; the input reads as it did. -/
def storySetsUptoRow : OpenClaim := { program := "ytinnifhnabncfaa", sum := "7e5d313b210306283dd8a8e8a05499371fcabd3db8bc60666272993400a1fdec", func := "hopper/hopperlaw22.StorySets", spec := "storySets", unfollowed := true, recurses := true, apart := false, narrowed := true }
def StorySetsUptoSaid : Prop := storySetsUptoRow.holds Try.pinned (OpenSpec.upto storySetsSpec)

end Rows
end Go.Proofs.Ytinnifhnabncfaa
