/-
  No cell of these rows narrows 'for every input' (looked for: loops, veiled, ifaces, maps, wideKeys, modest, calm, conditions, laid).
  DERIVED. THE GIVEN ROWS OF THIS SEAT. 4 by the template 'for every input the law returns true; each argument reads behind the call as it read before'; 0 by the template 'total and deterministic' (their statements: YtgninjlgeibgpaaTotals.lean).
  GIVEN WITH THE SEED: the statements are not yours to turn. If you find one false, say at which input.
  Laid BY PROGRAM, IN A SANDBOX (cutbox-rows.mjs): the forced cells as the released guide's own fill.sh prints them over the translation 39fe06e1a4ba7783… (all of the seat's roots in one cut). By AI agents, Wed Nov 11 2026. No macro, syntax, notation, axiom, sorry.
-/
import Derived.Test.YtgninjlgeibgpaaChecked
import GoSem.Claim
import GoSem.ClaimJoined
import GoSem.ClaimMapViews
import Derived.JoinedTies
import Derived.KernelRfl
namespace Go.Proofs.Ytgninjlgeibgpaa
/- THE CELL 'sum', in the pinned program and in every row, IS THE sha256 OF THE DUMP (.gsa) THAT YtgninjlgeibgpaaProg.lean LOADS. Nothing in Lean hashes anything: it is a label: what it is worth is what the hold of that sum in a sandbox is worth. -/
noncomputable def Try.pinned : Pinned := { name := "ytgninjlgeibgpaa", sum := "39fe06e1a4ba7783862feaf4371c441317c53dd8396a3e012c3931d46854808c", checked := Try.checked }
namespace Rows
def none {H : Type} : Left H := { results := [], args := [] }

/-- 'coaminglaw12.SegDoes': WHATEVER THE INPUT: true; the input reads as it did. -/
def segDoesSpec : ChangeSpec := { name := "segDoes", fn := fun _ => fun
  | [d1, d2, d3] => { results := [.lit (.bool true)], args := [d1, d2, d3] }
  | _ => none }
def segDoesRow : OpenClaim := { program := "ytgninjlgeibgpaa", sum := "39fe06e1a4ba7783862feaf4371c441317c53dd8396a3e012c3931d46854808c", func := "coaming/coaminglaw12.SegDoes", spec := "segDoes", unfollowed := true, recurses := true, apart := false }
def SegDoesSaid : Prop := segDoesRow.holds Try.pinned (OpenSpec.ofChange segDoesSpec)

/-- ITS FALSE NEIGHBOUR: 'it returns false'. Refute it at one input. -/
def segDoesWrong : ChangeSpec := { name := "segDoes", fn := fun _ => fun
  | [d1, d2, d3] => { results := [.lit (.bool false)], args := [d1, d2, d3] }
  | _ => none }
def SegDoesWrongFalsely : Prop := segDoesRow.holds Try.pinned (OpenSpec.ofChange segDoesWrong)

/-- 'coaminglaw12.SegParts': WHATEVER THE INPUT: true; the input reads as it did. -/
def segPartsSpec : ChangeSpec := { name := "segParts", fn := fun _ => fun
  | [d1, d2] => { results := [.lit (.bool true)], args := [d1, d2] }
  | _ => none }
def segPartsRow : OpenClaim := { program := "ytgninjlgeibgpaa", sum := "39fe06e1a4ba7783862feaf4371c441317c53dd8396a3e012c3931d46854808c", func := "coaming/coaminglaw12.SegParts", spec := "segParts", unfollowed := true, recurses := true, apart := false }
def SegPartsSaid : Prop := segPartsRow.holds Try.pinned (OpenSpec.ofChange segPartsSpec)

/-- ITS FALSE NEIGHBOUR: 'it returns false'. Refute it at one input. -/
def segPartsWrong : ChangeSpec := { name := "segParts", fn := fun _ => fun
  | [d1, d2] => { results := [.lit (.bool false)], args := [d1, d2] }
  | _ => none }
def SegPartsWrongFalsely : Prop := segPartsRow.holds Try.pinned (OpenSpec.ofChange segPartsWrong)

/-- 'coaminglaw12.SegTurns': WHATEVER THE INPUT: true; the input reads as it did. -/
def segTurnsSpec : ChangeSpec := { name := "segTurns", fn := fun _ => fun
  | [d1, d2] => { results := [.lit (.bool true)], args := [d1, d2] }
  | _ => none }
def segTurnsRow : OpenClaim := { program := "ytgninjlgeibgpaa", sum := "39fe06e1a4ba7783862feaf4371c441317c53dd8396a3e012c3931d46854808c", func := "coaming/coaminglaw12.SegTurns", spec := "segTurns", unfollowed := true, recurses := true, apart := false }
def SegTurnsSaid : Prop := segTurnsRow.holds Try.pinned (OpenSpec.ofChange segTurnsSpec)

/-- ITS FALSE NEIGHBOUR: 'it returns false'. Refute it at one input. -/
def segTurnsWrong : ChangeSpec := { name := "segTurns", fn := fun _ => fun
  | [d1, d2] => { results := [.lit (.bool false)], args := [d1, d2] }
  | _ => none }
def SegTurnsWrongFalsely : Prop := segTurnsRow.holds Try.pinned (OpenSpec.ofChange segTurnsWrong)

/-- 'coaminglaw12.SegTakes': WHATEVER THE INPUT: true; the input reads as it did. -/
def segTakesSpec : ChangeSpec := { name := "segTakes", fn := fun _ => fun
  | [d1, d2] => { results := [.lit (.bool true)], args := [d1, d2] }
  | _ => none }
def segTakesRow : OpenClaim := { program := "ytgninjlgeibgpaa", sum := "39fe06e1a4ba7783862feaf4371c441317c53dd8396a3e012c3931d46854808c", func := "coaming/coaminglaw12.SegTakes", spec := "segTakes", unfollowed := true, recurses := true, apart := false }
def SegTakesSaid : Prop := segTakesRow.holds Try.pinned (OpenSpec.ofChange segTakesSpec)

/-- ITS FALSE NEIGHBOUR: 'it returns false'. Refute it at one input. -/
def segTakesWrong : ChangeSpec := { name := "segTakes", fn := fun _ => fun
  | [d1, d2] => { results := [.lit (.bool false)], args := [d1, d2] }
  | _ => none }
def SegTakesWrongFalsely : Prop := segTakesRow.holds Try.pinned (OpenSpec.ofChange segTakesWrong)

/- THE SECOND FORM. 'bulk': how many values and letters a reading holds, each counted each time it is reached (what is shared counts as often as it is met; a slice's spare places count too). A statement '..UptoSaid' is the law's where the arguments, and the package variables that the reading takes, are together of bulk at most 1048576: NARROWER than '..Said'. Prove '..Said' where nothing that the law and all that it calls make is longer than what came in: it says more and counts as full. Else prove '..UptoSaid'. A law counts once. -/
mutual
def uptoBulk {H : Type} : DataW H → Nat
  | .lit (.string bytes) => bytes.length + 1
  | .lit _ => 1
  | .nil => 1
  | .ptr d => uptoBulk d + 1
  | .slice elems spare => uptoBulkAll elems + uptoBulkAll spare + 1
  | .agg parts => uptoBulkAll parts + 1
  | .iface _ d => uptoBulk d + 1
  | .map entries => uptoBulkEntries entries + 1
  | .held _ => 1
def uptoBulkAll {H : Type} : List (DataW H) → Nat
  | [] => 0
  | d :: r => uptoBulk d + uptoBulkAll r
def uptoBulkEntries {H : Type} : List (Lit × DataW H) → Nat
  | [] => 0
  | x :: r => uptoBulkEntry x + uptoBulkEntries r
def uptoBulkEntry {H : Type} : Lit × DataW H → Nat
  | (.string bytes, d) => bytes.length + uptoBulk d + 1
  | (_, d) => uptoBulk d + 1
 end
def uptoSmall : (H : Type) → List (DataW H) → Bool := fun _ ds => decide (uptoBulkAll ds ≤ 1048576)
def OpenSpec.upto (s : _root_.Go.ChangeSpec) : _root_.Go.OpenSpec := { _root_.Go.OpenSpec.ofChange s with cond := some uptoSmall }

/-- 'coaminglaw12.SegDoes', WHERE WHAT IT READS IS OF BULK AT MOST 1048576: true; the input reads as it did. -/
def segDoesUptoRow : OpenClaim := { program := "ytgninjlgeibgpaa", sum := "39fe06e1a4ba7783862feaf4371c441317c53dd8396a3e012c3931d46854808c", func := "coaming/coaminglaw12.SegDoes", spec := "segDoes", unfollowed := true, recurses := true, apart := false, narrowed := true }
def SegDoesUptoSaid : Prop := segDoesUptoRow.holds Try.pinned (OpenSpec.upto segDoesSpec)

/-- 'coaminglaw12.SegParts', WHERE WHAT IT READS IS OF BULK AT MOST 1048576: true; the input reads as it did. -/
def segPartsUptoRow : OpenClaim := { program := "ytgninjlgeibgpaa", sum := "39fe06e1a4ba7783862feaf4371c441317c53dd8396a3e012c3931d46854808c", func := "coaming/coaminglaw12.SegParts", spec := "segParts", unfollowed := true, recurses := true, apart := false, narrowed := true }
def SegPartsUptoSaid : Prop := segPartsUptoRow.holds Try.pinned (OpenSpec.upto segPartsSpec)

/-- 'coaminglaw12.SegTurns', WHERE WHAT IT READS IS OF BULK AT MOST 1048576: true; the input reads as it did. -/
def segTurnsUptoRow : OpenClaim := { program := "ytgninjlgeibgpaa", sum := "39fe06e1a4ba7783862feaf4371c441317c53dd8396a3e012c3931d46854808c", func := "coaming/coaminglaw12.SegTurns", spec := "segTurns", unfollowed := true, recurses := true, apart := false, narrowed := true }
def SegTurnsUptoSaid : Prop := segTurnsUptoRow.holds Try.pinned (OpenSpec.upto segTurnsSpec)

/-- 'coaminglaw12.SegTakes', WHERE WHAT IT READS IS OF BULK AT MOST 1048576: true; the input reads as it did. -/
def segTakesUptoRow : OpenClaim := { program := "ytgninjlgeibgpaa", sum := "39fe06e1a4ba7783862feaf4371c441317c53dd8396a3e012c3931d46854808c", func := "coaming/coaminglaw12.SegTakes", spec := "segTakes", unfollowed := true, recurses := true, apart := false, narrowed := true }
def SegTakesUptoSaid : Prop := segTakesUptoRow.holds Try.pinned (OpenSpec.upto segTakesSpec)

end Rows
end Go.Proofs.Ytgninjlgeibgpaa
