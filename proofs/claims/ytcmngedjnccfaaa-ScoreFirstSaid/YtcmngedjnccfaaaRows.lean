/-
  No cell of these rows narrows 'for every input' (looked for: loops, veiled, ifaces, maps, wideKeys, modest, calm, conditions, laid).
  DERIVED. THE GIVEN ROWS OF THIS SEAT. 8 by the template 'for every input the law returns true; each argument reads behind the call as it read before'; 0 by the template 'total and deterministic' (their statements: YtcmngedjnccfaaaTotals.lean).
  GIVEN WITH THE SEED: the statements are not yours to turn. If you find one false, say at which input.
  Laid BY PROGRAM, IN A SANDBOX (cutbox-rows.mjs): the forced cells as the released guide's own fill.sh prints them over the translation b8c19aa72d32156e… (all of the seat's roots in one cut). By AI agents, Wed Nov 11 2026. No macro, syntax, notation, axiom, sorry.
-/
import Derived.Test.YtcmngedjnccfaaaChecked
import GoSem.Claim
import GoSem.ClaimJoined
import GoSem.ClaimMapViews
import Derived.JoinedTies
import Derived.KernelRfl
namespace Go.Proofs.Ytcmngedjnccfaaa
/- THE CELL 'sum', in the pinned program and in every row, IS THE sha256 OF THE DUMP (.gsa) THAT YtcmngedjnccfaaaProg.lean LOADS. Nothing in Lean hashes anything: it is a label: what it is worth is what the hold of that sum in a sandbox is worth. -/
noncomputable def Try.pinned : Pinned := { name := "ytcmngedjnccfaaa", sum := "b8c19aa72d32156ed415960cfcd89e0270f26f309a0d377ad3877b43d053e983", checked := Try.checked }
namespace Rows
def none {H : Type} : Left H := { results := [], args := [] }

/-- 'coaminglaw09.ScoreKinds': WHATEVER THE INPUT: true; the input reads as it did. -/
def scoreKindsSpec : ChangeSpec := { name := "scoreKinds", fn := fun _ => fun
  | [d1, d2] => { results := [.lit (.bool true)], args := [d1, d2] }
  | _ => none }
def scoreKindsRow : OpenClaim := { program := "ytcmngedjnccfaaa", sum := "b8c19aa72d32156ed415960cfcd89e0270f26f309a0d377ad3877b43d053e983", func := "coaming/coaminglaw09.ScoreKinds", spec := "scoreKinds", inPlace := ["math.Float64bits", "math.Float64frombits"], unfollowed := true, recurses := true, apart := false }
def ScoreKindsSaid : Prop := scoreKindsRow.holds Try.pinned (OpenSpec.ofChange scoreKindsSpec)

/-- ITS FALSE NEIGHBOUR: 'it returns false'. Refute it at one input. -/
def scoreKindsWrong : ChangeSpec := { name := "scoreKinds", fn := fun _ => fun
  | [d1, d2] => { results := [.lit (.bool false)], args := [d1, d2] }
  | _ => none }
def ScoreKindsWrongFalsely : Prop := scoreKindsRow.holds Try.pinned (OpenSpec.ofChange scoreKindsWrong)

/-- 'coaminglaw09.ScoreWorths': WHATEVER THE INPUT: true; the input reads as it did. -/
def scoreWorthsSpec : ChangeSpec := { name := "scoreWorths", fn := fun _ => fun
  | [d1, d2, d3] => { results := [.lit (.bool true)], args := [d1, d2, d3] }
  | _ => none }
def scoreWorthsRow : OpenClaim := { program := "ytcmngedjnccfaaa", sum := "b8c19aa72d32156ed415960cfcd89e0270f26f309a0d377ad3877b43d053e983", func := "coaming/coaminglaw09.ScoreWorths", spec := "scoreWorths", inPlace := ["math.Float64bits", "math.Float64frombits"], unfollowed := true, recurses := true, apart := false }
def ScoreWorthsSaid : Prop := scoreWorthsRow.holds Try.pinned (OpenSpec.ofChange scoreWorthsSpec)

/-- ITS FALSE NEIGHBOUR: 'it returns false'. Refute it at one input. -/
def scoreWorthsWrong : ChangeSpec := { name := "scoreWorths", fn := fun _ => fun
  | [d1, d2, d3] => { results := [.lit (.bool false)], args := [d1, d2, d3] }
  | _ => none }
def ScoreWorthsWrongFalsely : Prop := scoreWorthsRow.holds Try.pinned (OpenSpec.ofChange scoreWorthsWrong)

/-- 'coaminglaw09.ScoreTotal': WHATEVER THE INPUT: true; the input reads as it did. -/
def scoreTotalSpec : ChangeSpec := { name := "scoreTotal", fn := fun _ => fun
  | [d1, d2, d3] => { results := [.lit (.bool true)], args := [d1, d2, d3] }
  | _ => none }
def scoreTotalRow : OpenClaim := { program := "ytcmngedjnccfaaa", sum := "b8c19aa72d32156ed415960cfcd89e0270f26f309a0d377ad3877b43d053e983", func := "coaming/coaminglaw09.ScoreTotal", spec := "scoreTotal", inPlace := ["math.Float64bits", "math.Float64frombits"], unfollowed := true, recurses := true, apart := false }
def ScoreTotalSaid : Prop := scoreTotalRow.holds Try.pinned (OpenSpec.ofChange scoreTotalSpec)

/-- ITS FALSE NEIGHBOUR: 'it returns false'. Refute it at one input. -/
def scoreTotalWrong : ChangeSpec := { name := "scoreTotal", fn := fun _ => fun
  | [d1, d2, d3] => { results := [.lit (.bool false)], args := [d1, d2, d3] }
  | _ => none }
def ScoreTotalWrongFalsely : Prop := scoreTotalRow.holds Try.pinned (OpenSpec.ofChange scoreTotalWrong)

/-- 'coaminglaw09.ScoreFirst': WHATEVER THE INPUT: true; the input reads as it did. -/
def scoreFirstSpec : ChangeSpec := { name := "scoreFirst", fn := fun _ => fun
  | [d1, d2] => { results := [.lit (.bool true)], args := [d1, d2] }
  | _ => none }
def scoreFirstRow : OpenClaim := { program := "ytcmngedjnccfaaa", sum := "b8c19aa72d32156ed415960cfcd89e0270f26f309a0d377ad3877b43d053e983", func := "coaming/coaminglaw09.ScoreFirst", spec := "scoreFirst", inPlace := ["math.Float64bits", "math.Float64frombits"], unfollowed := true, recurses := true, apart := false }
def ScoreFirstSaid : Prop := scoreFirstRow.holds Try.pinned (OpenSpec.ofChange scoreFirstSpec)

/-- ITS FALSE NEIGHBOUR: 'it returns false'. Refute it at one input. -/
def scoreFirstWrong : ChangeSpec := { name := "scoreFirst", fn := fun _ => fun
  | [d1, d2] => { results := [.lit (.bool false)], args := [d1, d2] }
  | _ => none }
def ScoreFirstWrongFalsely : Prop := scoreFirstRow.holds Try.pinned (OpenSpec.ofChange scoreFirstWrong)

/-- 'coaminglaw09.ScoreAges': WHATEVER THE INPUT: true; the input reads as it did. -/
def scoreAgesSpec : ChangeSpec := { name := "scoreAges", fn := fun _ => fun
  | [d1, d2, d3, d4, d5] => { results := [.lit (.bool true)], args := [d1, d2, d3, d4, d5] }
  | _ => none }
def scoreAgesRow : OpenClaim := { program := "ytcmngedjnccfaaa", sum := "b8c19aa72d32156ed415960cfcd89e0270f26f309a0d377ad3877b43d053e983", func := "coaming/coaminglaw09.ScoreAges", spec := "scoreAges", inPlace := ["math.Float64bits", "math.Float64frombits"], unfollowed := true, recurses := true, apart := false }
def ScoreAgesSaid : Prop := scoreAgesRow.holds Try.pinned (OpenSpec.ofChange scoreAgesSpec)

/-- ITS FALSE NEIGHBOUR: 'it returns false'. Refute it at one input. -/
def scoreAgesWrong : ChangeSpec := { name := "scoreAges", fn := fun _ => fun
  | [d1, d2, d3, d4, d5] => { results := [.lit (.bool false)], args := [d1, d2, d3, d4, d5] }
  | _ => none }
def ScoreAgesWrongFalsely : Prop := scoreAgesRow.holds Try.pinned (OpenSpec.ofChange scoreAgesWrong)

/-- 'coaminglaw09.ScoreRatios': WHATEVER THE INPUT: true; the input reads as it did. -/
def scoreRatiosSpec : ChangeSpec := { name := "scoreRatios", fn := fun _ => fun
  | [d1, d2, d3] => { results := [.lit (.bool true)], args := [d1, d2, d3] }
  | _ => none }
def scoreRatiosRow : OpenClaim := { program := "ytcmngedjnccfaaa", sum := "b8c19aa72d32156ed415960cfcd89e0270f26f309a0d377ad3877b43d053e983", func := "coaming/coaminglaw09.ScoreRatios", spec := "scoreRatios", inPlace := ["math.Float64bits", "math.Float64frombits"], unfollowed := true, recurses := true, apart := false }
def ScoreRatiosSaid : Prop := scoreRatiosRow.holds Try.pinned (OpenSpec.ofChange scoreRatiosSpec)

/-- ITS FALSE NEIGHBOUR: 'it returns false'. Refute it at one input. -/
def scoreRatiosWrong : ChangeSpec := { name := "scoreRatios", fn := fun _ => fun
  | [d1, d2, d3] => { results := [.lit (.bool false)], args := [d1, d2, d3] }
  | _ => none }
def ScoreRatiosWrongFalsely : Prop := scoreRatiosRow.holds Try.pinned (OpenSpec.ofChange scoreRatiosWrong)

/-- 'coaminglaw09.ScoreBests': WHATEVER THE INPUT: true; the input reads as it did. -/
def scoreBestsSpec : ChangeSpec := { name := "scoreBests", fn := fun _ => fun
  | [d] => { results := [.lit (.bool true)], args := [d] }
  | _ => none }
def scoreBestsRow : OpenClaim := { program := "ytcmngedjnccfaaa", sum := "b8c19aa72d32156ed415960cfcd89e0270f26f309a0d377ad3877b43d053e983", func := "coaming/coaminglaw09.ScoreBests", spec := "scoreBests", inPlace := ["math.Float64bits", "math.Float64frombits"], unfollowed := true, recurses := true, apart := false }
def ScoreBestsSaid : Prop := scoreBestsRow.holds Try.pinned (OpenSpec.ofChange scoreBestsSpec)

/-- ITS FALSE NEIGHBOUR: 'it returns false'. Refute it at one input. -/
def scoreBestsWrong : ChangeSpec := { name := "scoreBests", fn := fun _ => fun
  | [d] => { results := [.lit (.bool false)], args := [d] }
  | _ => none }
def ScoreBestsWrongFalsely : Prop := scoreBestsRow.holds Try.pinned (OpenSpec.ofChange scoreBestsWrong)

/-- 'coaminglaw09.ScoreMeans': WHATEVER THE INPUT: true; the input reads as it did. -/
def scoreMeansSpec : ChangeSpec := { name := "scoreMeans", fn := fun _ => fun
  | [d1, d2, d3] => { results := [.lit (.bool true)], args := [d1, d2, d3] }
  | _ => none }
def scoreMeansRow : OpenClaim := { program := "ytcmngedjnccfaaa", sum := "b8c19aa72d32156ed415960cfcd89e0270f26f309a0d377ad3877b43d053e983", func := "coaming/coaminglaw09.ScoreMeans", spec := "scoreMeans", inPlace := ["math.Float64bits", "math.Float64frombits"], unfollowed := true, recurses := true, apart := false }
def ScoreMeansSaid : Prop := scoreMeansRow.holds Try.pinned (OpenSpec.ofChange scoreMeansSpec)

/-- ITS FALSE NEIGHBOUR: 'it returns false'. Refute it at one input. -/
def scoreMeansWrong : ChangeSpec := { name := "scoreMeans", fn := fun _ => fun
  | [d1, d2, d3] => { results := [.lit (.bool false)], args := [d1, d2, d3] }
  | _ => none }
def ScoreMeansWrongFalsely : Prop := scoreMeansRow.holds Try.pinned (OpenSpec.ofChange scoreMeansWrong)

/- THE SECOND FORM. 'bulk': how many values and letters a reading holds, each counted each time it is reached (what is shared counts as often as it is met; a slice's spare places count too). A statement '..UptoSaid' is the law's where the arguments, and the package variables that the reading takes, are together of bulk at most 1048576: NARROWER than '..Said'. Prove '..Said' where nothing that the law and all that it calls make is longer than what came in: it says more and counts as full. Else prove '..UptoSaid'. A law counts once. -/
mutual
def uptoBulk {H : Type} : DataW H → Nat
  | .lit (.string bytes) => bytes.length + 1
  | .lit _ => 1
  | .nil => 1
  | .ptr d => uptoBulk d + 1
  | .slice elems spare => uptoBulkAll elems + uptoBulkAll spare + 1
  | .agg parts => uptoBulkAll parts + 1
  | .iface _ d => uptoBulk d + 1
  | .map entries => uptoBulkEntries entries + 1
  | .held _ => 1
def uptoBulkAll {H : Type} : List (DataW H) → Nat
  | [] => 0
  | d :: r => uptoBulk d + uptoBulkAll r
def uptoBulkEntries {H : Type} : List (Lit × DataW H) → Nat
  | [] => 0
  | x :: r => uptoBulkEntry x + uptoBulkEntries r
def uptoBulkEntry {H : Type} : Lit × DataW H → Nat
  | (.string bytes, d) => bytes.length + uptoBulk d + 1
  | (_, d) => uptoBulk d + 1
 end
def uptoSmall : (H : Type) → List (DataW H) → Bool := fun _ ds => decide (uptoBulkAll ds ≤ 1048576)
def OpenSpec.upto (s : _root_.Go.ChangeSpec) : _root_.Go.OpenSpec := { _root_.Go.OpenSpec.ofChange s with cond := some uptoSmall }

/-- 'coaminglaw09.ScoreKinds', WHERE WHAT IT READS IS OF BULK AT MOST 1048576: true; the input reads as it did. -/
def scoreKindsUptoRow : OpenClaim := { program := "ytcmngedjnccfaaa", sum := "b8c19aa72d32156ed415960cfcd89e0270f26f309a0d377ad3877b43d053e983", func := "coaming/coaminglaw09.ScoreKinds", spec := "scoreKinds", inPlace := ["math.Float64bits", "math.Float64frombits"], unfollowed := true, recurses := true, apart := false, narrowed := true }
def ScoreKindsUptoSaid : Prop := scoreKindsUptoRow.holds Try.pinned (OpenSpec.upto scoreKindsSpec)

/-- 'coaminglaw09.ScoreWorths', WHERE WHAT IT READS IS OF BULK AT MOST 1048576: true; the input reads as it did. -/
def scoreWorthsUptoRow : OpenClaim := { program := "ytcmngedjnccfaaa", sum := "b8c19aa72d32156ed415960cfcd89e0270f26f309a0d377ad3877b43d053e983", func := "coaming/coaminglaw09.ScoreWorths", spec := "scoreWorths", inPlace := ["math.Float64bits", "math.Float64frombits"], unfollowed := true, recurses := true, apart := false, narrowed := true }
def ScoreWorthsUptoSaid : Prop := scoreWorthsUptoRow.holds Try.pinned (OpenSpec.upto scoreWorthsSpec)

/-- 'coaminglaw09.ScoreTotal', WHERE WHAT IT READS IS OF BULK AT MOST 1048576: true; the input reads as it did. -/
def scoreTotalUptoRow : OpenClaim := { program := "ytcmngedjnccfaaa", sum := "b8c19aa72d32156ed415960cfcd89e0270f26f309a0d377ad3877b43d053e983", func := "coaming/coaminglaw09.ScoreTotal", spec := "scoreTotal", inPlace := ["math.Float64bits", "math.Float64frombits"], unfollowed := true, recurses := true, apart := false, narrowed := true }
def ScoreTotalUptoSaid : Prop := scoreTotalUptoRow.holds Try.pinned (OpenSpec.upto scoreTotalSpec)

/-- 'coaminglaw09.ScoreFirst', WHERE WHAT IT READS IS OF BULK AT MOST 1048576: true; the input reads as it did. -/
def scoreFirstUptoRow : OpenClaim := { program := "ytcmngedjnccfaaa", sum := "b8c19aa72d32156ed415960cfcd89e0270f26f309a0d377ad3877b43d053e983", func := "coaming/coaminglaw09.ScoreFirst", spec := "scoreFirst", inPlace := ["math.Float64bits", "math.Float64frombits"], unfollowed := true, recurses := true, apart := false, narrowed := true }
def ScoreFirstUptoSaid : Prop := scoreFirstUptoRow.holds Try.pinned (OpenSpec.upto scoreFirstSpec)

/-- 'coaminglaw09.ScoreAges', WHERE WHAT IT READS IS OF BULK AT MOST 1048576: true; the input reads as it did. -/
def scoreAgesUptoRow : OpenClaim := { program := "ytcmngedjnccfaaa", sum := "b8c19aa72d32156ed415960cfcd89e0270f26f309a0d377ad3877b43d053e983", func := "coaming/coaminglaw09.ScoreAges", spec := "scoreAges", inPlace := ["math.Float64bits", "math.Float64frombits"], unfollowed := true, recurses := true, apart := false, narrowed := true }
def ScoreAgesUptoSaid : Prop := scoreAgesUptoRow.holds Try.pinned (OpenSpec.upto scoreAgesSpec)

/-- 'coaminglaw09.ScoreRatios', WHERE WHAT IT READS IS OF BULK AT MOST 1048576: true; the input reads as it did. -/
def scoreRatiosUptoRow : OpenClaim := { program := "ytcmngedjnccfaaa", sum := "b8c19aa72d32156ed415960cfcd89e0270f26f309a0d377ad3877b43d053e983", func := "coaming/coaminglaw09.ScoreRatios", spec := "scoreRatios", inPlace := ["math.Float64bits", "math.Float64frombits"], unfollowed := true, recurses := true, apart := false, narrowed := true }
def ScoreRatiosUptoSaid : Prop := scoreRatiosUptoRow.holds Try.pinned (OpenSpec.upto scoreRatiosSpec)

/-- 'coaminglaw09.ScoreBests', WHERE WHAT IT READS IS OF BULK AT MOST 1048576: true; the input reads as it did. -/
def scoreBestsUptoRow : OpenClaim := { program := "ytcmngedjnccfaaa", sum := "b8c19aa72d32156ed415960cfcd89e0270f26f309a0d377ad3877b43d053e983", func := "coaming/coaminglaw09.ScoreBests", spec := "scoreBests", inPlace := ["math.Float64bits", "math.Float64frombits"], unfollowed := true, recurses := true, apart := false, narrowed := true }
def ScoreBestsUptoSaid : Prop := scoreBestsUptoRow.holds Try.pinned (OpenSpec.upto scoreBestsSpec)

/-- 'coaminglaw09.ScoreMeans', WHERE WHAT IT READS IS OF BULK AT MOST 1048576: true; the input reads as it did. -/
def scoreMeansUptoRow : OpenClaim := { program := "ytcmngedjnccfaaa", sum := "b8c19aa72d32156ed415960cfcd89e0270f26f309a0d377ad3877b43d053e983", func := "coaming/coaminglaw09.ScoreMeans", spec := "scoreMeans", inPlace := ["math.Float64bits", "math.Float64frombits"], unfollowed := true, recurses := true, apart := false, narrowed := true }
def ScoreMeansUptoSaid : Prop := scoreMeansUptoRow.holds Try.pinned (OpenSpec.upto scoreMeansSpec)

end Rows
end Go.Proofs.Ytcmngedjnccfaaa
