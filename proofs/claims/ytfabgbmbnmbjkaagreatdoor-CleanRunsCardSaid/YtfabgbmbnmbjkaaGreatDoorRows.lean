/-
  NARROWER THAN 'FOR EVERY INPUT', by the rows' own cells (each row's printed sentence says how): StoreDoes: laid · CleanKeeps: laid · CleanFrees: laid · CleanPicks: laid · CleanSeq: laid · CleanSteps: laid · CleanRuns: laid.
  DERIVED. THE GIVEN ROWS OF THIS SEAT. 7 by the template 'for every input the law returns true; each argument reads behind the call as it read before'; 0 by the template 'total and deterministic' (their statements: YtfabgbmbnmbjkaaGreatDoorTotals.lean).
  GIVEN WITH THE SEED: the statements are not yours to turn. If you find one false, say at which input.
  Laid BY PROGRAM, IN A SANDBOX (cutbox-rows.mjs): the forced cells as the released guide's own fill.sh prints them over the translation 03678d29dd3eb8ef… (all of the seat's roots in one cut). By AI agents, Wed Nov 11 2026. No macro, syntax, notation, axiom, sorry.
-/
import Derived.Test.YtfabgbmbnmbjkaaGreatDoorChecked
import GoSem.PinnedTables
import GoSem.Claim
import GoSem.ClaimJoined
import GoSem.ClaimMapViews
import Derived.JoinedTies
import Derived.KernelRfl
namespace Go.Proofs.YtfabgbmbnmbjkaaGreatDoor
/- THE CELL 'sum', in the pinned program and in every row, IS THE sha256 OF THE DUMP (.gsa) THAT YtfabgbmbnmbjkaaGreatDoorProg.lean LOADS. Nothing in Lean hashes anything: it is a label: what it is worth is what the hold of that sum in a sandbox is worth. -/
noncomputable def Tryz.pinned : Pinned := { name := "ytfabgbmbnmbjkaagreatdoor", sum := "03678d29dd3eb8efe728380e65805cfb6d0c73c979090cb0827e6436711fb729", checked := Tryz.checked }
namespace Rows
def none {H : Type} : Left H := { results := [], args := [] }

/- WHAT THE LISTED PACKAGE-LEVEL VARIABLES READ AS WHEN THE CALL BEGINS. Each datum BY PROGRAM (the guide's laid-datum.mjs) off the statement by which the dump's own 'gosem.cut.vars' lays the variable. In a bare row this is a premise. The card (YtfabgbmbnmbjkaaGreatDoorCards.lean) ties it to the program's text. -/
def laid_unicode_utf8_acceptRanges {H : Type} : DataW H := .agg [.agg [.lit (.int .u8 128), .lit (.int .u8 191)], .agg [.lit (.int .u8 160), .lit (.int .u8 191)], .agg [.lit (.int .u8 128), .lit (.int .u8 159)], .agg [.lit (.int .u8 144), .lit (.int .u8 191)], .agg [.lit (.int .u8 128), .lit (.int .u8 143)], .agg [.lit (.int .u8 0), .lit (.int .u8 0)], .agg [.lit (.int .u8 0), .lit (.int .u8 0)], .agg [.lit (.int .u8 0), .lit (.int .u8 0)], .agg [.lit (.int .u8 0), .lit (.int .u8 0)], .agg [.lit (.int .u8 0), .lit (.int .u8 0)], .agg [.lit (.int .u8 0), .lit (.int .u8 0)], .agg [.lit (.int .u8 0), .lit (.int .u8 0)], .agg [.lit (.int .u8 0), .lit (.int .u8 0)], .agg [.lit (.int .u8 0), .lit (.int .u8 0)], .agg [.lit (.int .u8 0), .lit (.int .u8 0)], .agg [.lit (.int .u8 0), .lit (.int .u8 0)]]
/-- One of Go's own tables, pinned by name: the form's constant. -/
def laid_unicode_utf8_first : DataW Unit := Go.Pinned.utf8First

/-- 'coaminglaw16.StoreDoes': WHATEVER THE INPUT: true; the input reads as it did. -/
def storeDoesSpec : ChangeSpec := { name := "storeDoes", fn := fun _ => fun
  | [d1, d2] => { results := [.lit (.bool true)], args := [d1, d2] }
  | _ => none }
def storeDoesRow : OpenClaim := { program := "ytfabgbmbnmbjkaagreatdoor", sum := "03678d29dd3eb8efe728380e65805cfb6d0c73c979090cb0827e6436711fb729", func := "coaming/coaminglaw16.StoreDoes", spec := "storeDoes", unfollowed := true, recurses := true, named := ["unicode/utf8.first", "unicode/utf8.acceptRanges"], plainKeys := false, apart := false, laid := [("unicode/utf8.acceptRanges", laid_unicode_utf8_acceptRanges), ("unicode/utf8.first", laid_unicode_utf8_first)] }
def StoreDoesSaid : Prop := storeDoesRow.holds Tryz.pinned (OpenSpec.ofChange storeDoesSpec)

/-- ITS FALSE NEIGHBOUR: 'it returns false'. Refute it at one input. -/
def storeDoesWrong : ChangeSpec := { name := "storeDoes", fn := fun _ => fun
  | [d1, d2] => { results := [.lit (.bool false)], args := [d1, d2] }
  | _ => none }
def StoreDoesWrongFalsely : Prop := storeDoesRow.holds Tryz.pinned (OpenSpec.ofChange storeDoesWrong)

/-- 'coaminglaw17.CleanKeeps': WHATEVER THE INPUT: true; the input reads as it did. -/
def cleanKeepsSpec : ChangeSpec := { name := "cleanKeeps", fn := fun _ => fun
  | [d1, d2, d3] => { results := [.lit (.bool true)], args := [d1, d2, d3] }
  | _ => none }
def cleanKeepsRow : OpenClaim := { program := "ytfabgbmbnmbjkaagreatdoor", sum := "03678d29dd3eb8efe728380e65805cfb6d0c73c979090cb0827e6436711fb729", func := "coaming/coaminglaw17.CleanKeeps", spec := "cleanKeeps", unfollowed := true, recurses := true, named := ["unicode/utf8.first", "unicode/utf8.acceptRanges"], plainKeys := false, apart := false, laid := [("unicode/utf8.acceptRanges", laid_unicode_utf8_acceptRanges), ("unicode/utf8.first", laid_unicode_utf8_first)] }
def CleanKeepsSaid : Prop := cleanKeepsRow.holds Tryz.pinned (OpenSpec.ofChange cleanKeepsSpec)

/-- ITS FALSE NEIGHBOUR: 'it returns false'. Refute it at one input. -/
def cleanKeepsWrong : ChangeSpec := { name := "cleanKeeps", fn := fun _ => fun
  | [d1, d2, d3] => { results := [.lit (.bool false)], args := [d1, d2, d3] }
  | _ => none }
def CleanKeepsWrongFalsely : Prop := cleanKeepsRow.holds Tryz.pinned (OpenSpec.ofChange cleanKeepsWrong)

/-- 'coaminglaw17.CleanFrees': WHATEVER THE INPUT: true; the input reads as it did. -/
def cleanFreesSpec : ChangeSpec := { name := "cleanFrees", fn := fun _ => fun
  | [d1, d2] => { results := [.lit (.bool true)], args := [d1, d2] }
  | _ => none }
def cleanFreesRow : OpenClaim := { program := "ytfabgbmbnmbjkaagreatdoor", sum := "03678d29dd3eb8efe728380e65805cfb6d0c73c979090cb0827e6436711fb729", func := "coaming/coaminglaw17.CleanFrees", spec := "cleanFrees", unfollowed := true, recurses := true, named := ["unicode/utf8.first", "unicode/utf8.acceptRanges"], plainKeys := false, apart := false, laid := [("unicode/utf8.acceptRanges", laid_unicode_utf8_acceptRanges), ("unicode/utf8.first", laid_unicode_utf8_first)] }
def CleanFreesSaid : Prop := cleanFreesRow.holds Tryz.pinned (OpenSpec.ofChange cleanFreesSpec)

/-- ITS FALSE NEIGHBOUR: 'it returns false'. Refute it at one input. -/
def cleanFreesWrong : ChangeSpec := { name := "cleanFrees", fn := fun _ => fun
  | [d1, d2] => { results := [.lit (.bool false)], args := [d1, d2] }
  | _ => none }
def CleanFreesWrongFalsely : Prop := cleanFreesRow.holds Tryz.pinned (OpenSpec.ofChange cleanFreesWrong)

/-- 'coaminglaw17.CleanPicks': WHATEVER THE INPUT: true; the input reads as it did. -/
def cleanPicksSpec : ChangeSpec := { name := "cleanPicks", fn := fun _ => fun
  | [d1, d2] => { results := [.lit (.bool true)], args := [d1, d2] }
  | _ => none }
def cleanPicksRow : OpenClaim := { program := "ytfabgbmbnmbjkaagreatdoor", sum := "03678d29dd3eb8efe728380e65805cfb6d0c73c979090cb0827e6436711fb729", func := "coaming/coaminglaw17.CleanPicks", spec := "cleanPicks", unfollowed := true, recurses := true, named := ["unicode/utf8.first", "unicode/utf8.acceptRanges"], plainKeys := false, apart := false, laid := [("unicode/utf8.acceptRanges", laid_unicode_utf8_acceptRanges), ("unicode/utf8.first", laid_unicode_utf8_first)] }
def CleanPicksSaid : Prop := cleanPicksRow.holds Tryz.pinned (OpenSpec.ofChange cleanPicksSpec)

/-- ITS FALSE NEIGHBOUR: 'it returns false'. Refute it at one input. -/
def cleanPicksWrong : ChangeSpec := { name := "cleanPicks", fn := fun _ => fun
  | [d1, d2] => { results := [.lit (.bool false)], args := [d1, d2] }
  | _ => none }
def CleanPicksWrongFalsely : Prop := cleanPicksRow.holds Tryz.pinned (OpenSpec.ofChange cleanPicksWrong)

/-- 'coaminglaw17.CleanSeq': WHATEVER THE INPUT: true; the input reads as it did. -/
def cleanSeqSpec : ChangeSpec := { name := "cleanSeq", fn := fun _ => fun
  | [d1, d2] => { results := [.lit (.bool true)], args := [d1, d2] }
  | _ => none }
def cleanSeqRow : OpenClaim := { program := "ytfabgbmbnmbjkaagreatdoor", sum := "03678d29dd3eb8efe728380e65805cfb6d0c73c979090cb0827e6436711fb729", func := "coaming/coaminglaw17.CleanSeq", spec := "cleanSeq", unfollowed := true, recurses := true, named := ["unicode/utf8.first", "unicode/utf8.acceptRanges"], plainKeys := false, apart := false, laid := [("unicode/utf8.acceptRanges", laid_unicode_utf8_acceptRanges), ("unicode/utf8.first", laid_unicode_utf8_first)] }
def CleanSeqSaid : Prop := cleanSeqRow.holds Tryz.pinned (OpenSpec.ofChange cleanSeqSpec)

/-- ITS FALSE NEIGHBOUR: 'it returns false'. Refute it at one input. -/
def cleanSeqWrong : ChangeSpec := { name := "cleanSeq", fn := fun _ => fun
  | [d1, d2] => { results := [.lit (.bool false)], args := [d1, d2] }
  | _ => none }
def CleanSeqWrongFalsely : Prop := cleanSeqRow.holds Tryz.pinned (OpenSpec.ofChange cleanSeqWrong)

/-- 'coaminglaw17.CleanSteps': WHATEVER THE INPUT: true; the input reads as it did. -/
def cleanStepsSpec : ChangeSpec := { name := "cleanSteps", fn := fun _ => fun
  | [d1, d2, d3] => { results := [.lit (.bool true)], args := [d1, d2, d3] }
  | _ => none }
def cleanStepsRow : OpenClaim := { program := "ytfabgbmbnmbjkaagreatdoor", sum := "03678d29dd3eb8efe728380e65805cfb6d0c73c979090cb0827e6436711fb729", func := "coaming/coaminglaw17.CleanSteps", spec := "cleanSteps", unfollowed := true, recurses := true, named := ["unicode/utf8.first", "unicode/utf8.acceptRanges"], plainKeys := false, apart := false, laid := [("unicode/utf8.acceptRanges", laid_unicode_utf8_acceptRanges), ("unicode/utf8.first", laid_unicode_utf8_first)] }
def CleanStepsSaid : Prop := cleanStepsRow.holds Tryz.pinned (OpenSpec.ofChange cleanStepsSpec)

/-- ITS FALSE NEIGHBOUR: 'it returns false'. Refute it at one input. -/
def cleanStepsWrong : ChangeSpec := { name := "cleanSteps", fn := fun _ => fun
  | [d1, d2, d3] => { results := [.lit (.bool false)], args := [d1, d2, d3] }
  | _ => none }
def CleanStepsWrongFalsely : Prop := cleanStepsRow.holds Tryz.pinned (OpenSpec.ofChange cleanStepsWrong)

/-- 'coaminglaw17.CleanRuns': WHATEVER THE INPUT: true; the input reads as it did. -/
def cleanRunsSpec : ChangeSpec := { name := "cleanRuns", fn := fun _ => fun
  | [d1, d2] => { results := [.lit (.bool true)], args := [d1, d2] }
  | _ => none }
def cleanRunsRow : OpenClaim := { program := "ytfabgbmbnmbjkaagreatdoor", sum := "03678d29dd3eb8efe728380e65805cfb6d0c73c979090cb0827e6436711fb729", func := "coaming/coaminglaw17.CleanRuns", spec := "cleanRuns", unfollowed := true, recurses := true, named := ["unicode/utf8.first", "unicode/utf8.acceptRanges"], plainKeys := false, apart := false, laid := [("unicode/utf8.acceptRanges", laid_unicode_utf8_acceptRanges), ("unicode/utf8.first", laid_unicode_utf8_first)] }
def CleanRunsSaid : Prop := cleanRunsRow.holds Tryz.pinned (OpenSpec.ofChange cleanRunsSpec)

/-- ITS FALSE NEIGHBOUR: 'it returns false'. Refute it at one input. -/
def cleanRunsWrong : ChangeSpec := { name := "cleanRuns", fn := fun _ => fun
  | [d1, d2] => { results := [.lit (.bool false)], args := [d1, d2] }
  | _ => none }
def CleanRunsWrongFalsely : Prop := cleanRunsRow.holds Tryz.pinned (OpenSpec.ofChange cleanRunsWrong)

/- THE SECOND FORM. 'bulk': how many values and letters a reading holds, each counted each time it is reached (what is shared counts as often as it is met; a slice's spare places count too). A statement '..UptoSaid' is the law's where the arguments, and the package variables that the reading takes, are together of bulk at most 1048576: NARROWER than '..Said'. Prove '..Said' where nothing that the law and all that it calls make is longer than what came in: it says more and counts as full. Else prove '..UptoSaid'. A law counts once. -/
mutual
def uptoBulk {H : Type} : DataW H → Nat
  | .lit (.string bytes) => bytes.length + 1
  | .lit _ => 1
  | .nil => 1
  | .ptr d => uptoBulk d + 1
  | .slice elems spare => uptoBulkAll elems + uptoBulkAll spare + 1
  | .agg parts => uptoBulkAll parts + 1
  | .iface _ d => uptoBulk d + 1
  | .map entries => uptoBulkEntries entries + 1
  | .held _ => 1
def uptoBulkAll {H : Type} : List (DataW H) → Nat
  | [] => 0
  | d :: r => uptoBulk d + uptoBulkAll r
def uptoBulkEntries {H : Type} : List (Lit × DataW H) → Nat
  | [] => 0
  | x :: r => uptoBulkEntry x + uptoBulkEntries r
def uptoBulkEntry {H : Type} : Lit × DataW H → Nat
  | (.string bytes, d) => bytes.length + uptoBulk d + 1
  | (_, d) => uptoBulk d + 1
 end
def uptoSmall : (H : Type) → List (DataW H) → Bool := fun _ ds => decide (uptoBulkAll ds ≤ 1048576)
def OpenSpec.upto (s : _root_.Go.ChangeSpec) : _root_.Go.OpenSpec := { _root_.Go.OpenSpec.ofChange s with cond := some uptoSmall }

/-- 'coaminglaw16.StoreDoes', WHERE WHAT IT READS IS OF BULK AT MOST 1048576: true; the input reads as it did. -/
def storeDoesUptoRow : OpenClaim := { program := "ytfabgbmbnmbjkaagreatdoor", sum := "03678d29dd3eb8efe728380e65805cfb6d0c73c979090cb0827e6436711fb729", func := "coaming/coaminglaw16.StoreDoes", spec := "storeDoes", unfollowed := true, recurses := true, named := ["unicode/utf8.first", "unicode/utf8.acceptRanges"], plainKeys := false, apart := false, laid := [("unicode/utf8.acceptRanges", laid_unicode_utf8_acceptRanges), ("unicode/utf8.first", laid_unicode_utf8_first)], narrowed := true }
def StoreDoesUptoSaid : Prop := storeDoesUptoRow.holds Tryz.pinned (OpenSpec.upto storeDoesSpec)

/-- 'coaminglaw17.CleanKeeps', WHERE WHAT IT READS IS OF BULK AT MOST 1048576: true; the input reads as it did. -/
def cleanKeepsUptoRow : OpenClaim := { program := "ytfabgbmbnmbjkaagreatdoor", sum := "03678d29dd3eb8efe728380e65805cfb6d0c73c979090cb0827e6436711fb729", func := "coaming/coaminglaw17.CleanKeeps", spec := "cleanKeeps", unfollowed := true, recurses := true, named := ["unicode/utf8.first", "unicode/utf8.acceptRanges"], plainKeys := false, apart := false, laid := [("unicode/utf8.acceptRanges", laid_unicode_utf8_acceptRanges), ("unicode/utf8.first", laid_unicode_utf8_first)], narrowed := true }
def CleanKeepsUptoSaid : Prop := cleanKeepsUptoRow.holds Tryz.pinned (OpenSpec.upto cleanKeepsSpec)

/-- 'coaminglaw17.CleanFrees', WHERE WHAT IT READS IS OF BULK AT MOST 1048576: true; the input reads as it did. -/
def cleanFreesUptoRow : OpenClaim := { program := "ytfabgbmbnmbjkaagreatdoor", sum := "03678d29dd3eb8efe728380e65805cfb6d0c73c979090cb0827e6436711fb729", func := "coaming/coaminglaw17.CleanFrees", spec := "cleanFrees", unfollowed := true, recurses := true, named := ["unicode/utf8.first", "unicode/utf8.acceptRanges"], plainKeys := false, apart := false, laid := [("unicode/utf8.acceptRanges", laid_unicode_utf8_acceptRanges), ("unicode/utf8.first", laid_unicode_utf8_first)], narrowed := true }
def CleanFreesUptoSaid : Prop := cleanFreesUptoRow.holds Tryz.pinned (OpenSpec.upto cleanFreesSpec)

/-- 'coaminglaw17.CleanPicks', WHERE WHAT IT READS IS OF BULK AT MOST 1048576: true; the input reads as it did. -/
def cleanPicksUptoRow : OpenClaim := { program := "ytfabgbmbnmbjkaagreatdoor", sum := "03678d29dd3eb8efe728380e65805cfb6d0c73c979090cb0827e6436711fb729", func := "coaming/coaminglaw17.CleanPicks", spec := "cleanPicks", unfollowed := true, recurses := true, named := ["unicode/utf8.first", "unicode/utf8.acceptRanges"], plainKeys := false, apart := false, laid := [("unicode/utf8.acceptRanges", laid_unicode_utf8_acceptRanges), ("unicode/utf8.first", laid_unicode_utf8_first)], narrowed := true }
def CleanPicksUptoSaid : Prop := cleanPicksUptoRow.holds Tryz.pinned (OpenSpec.upto cleanPicksSpec)

/-- 'coaminglaw17.CleanSeq', WHERE WHAT IT READS IS OF BULK AT MOST 1048576: true; the input reads as it did. -/
def cleanSeqUptoRow : OpenClaim := { program := "ytfabgbmbnmbjkaagreatdoor", sum := "03678d29dd3eb8efe728380e65805cfb6d0c73c979090cb0827e6436711fb729", func := "coaming/coaminglaw17.CleanSeq", spec := "cleanSeq", unfollowed := true, recurses := true, named := ["unicode/utf8.first", "unicode/utf8.acceptRanges"], plainKeys := false, apart := false, laid := [("unicode/utf8.acceptRanges", laid_unicode_utf8_acceptRanges), ("unicode/utf8.first", laid_unicode_utf8_first)], narrowed := true }
def CleanSeqUptoSaid : Prop := cleanSeqUptoRow.holds Tryz.pinned (OpenSpec.upto cleanSeqSpec)

/-- 'coaminglaw17.CleanSteps', WHERE WHAT IT READS IS OF BULK AT MOST 1048576: true; the input reads as it did. -/
def cleanStepsUptoRow : OpenClaim := { program := "ytfabgbmbnmbjkaagreatdoor", sum := "03678d29dd3eb8efe728380e65805cfb6d0c73c979090cb0827e6436711fb729", func := "coaming/coaminglaw17.CleanSteps", spec := "cleanSteps", unfollowed := true, recurses := true, named := ["unicode/utf8.first", "unicode/utf8.acceptRanges"], plainKeys := false, apart := false, laid := [("unicode/utf8.acceptRanges", laid_unicode_utf8_acceptRanges), ("unicode/utf8.first", laid_unicode_utf8_first)], narrowed := true }
def CleanStepsUptoSaid : Prop := cleanStepsUptoRow.holds Tryz.pinned (OpenSpec.upto cleanStepsSpec)

/-- 'coaminglaw17.CleanRuns', WHERE WHAT IT READS IS OF BULK AT MOST 1048576: true; the input reads as it did. -/
def cleanRunsUptoRow : OpenClaim := { program := "ytfabgbmbnmbjkaagreatdoor", sum := "03678d29dd3eb8efe728380e65805cfb6d0c73c979090cb0827e6436711fb729", func := "coaming/coaminglaw17.CleanRuns", spec := "cleanRuns", unfollowed := true, recurses := true, named := ["unicode/utf8.first", "unicode/utf8.acceptRanges"], plainKeys := false, apart := false, laid := [("unicode/utf8.acceptRanges", laid_unicode_utf8_acceptRanges), ("unicode/utf8.first", laid_unicode_utf8_first)], narrowed := true }
def CleanRunsUptoSaid : Prop := cleanRunsUptoRow.holds Tryz.pinned (OpenSpec.upto cleanRunsSpec)

end Rows
end Go.Proofs.YtfabgbmbnmbjkaaGreatDoor
