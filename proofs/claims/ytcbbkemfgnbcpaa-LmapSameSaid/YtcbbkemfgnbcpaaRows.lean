/-
  No cell of these rows narrows 'for every input' (looked for: loops, veiled, ifaces, maps, wideKeys, modest, calm, conditions, laid).
  DERIVED. THE GIVEN ROWS OF THIS SEAT. 5 by the template 'for every input the law returns true; each argument reads behind the call as it read before'; 0 by the template 'total and deterministic' (their statements: YtcbbkemfgnbcpaaTotals.lean).
  GIVEN WITH THE SEED: the statements are not yours to turn. If you find one false, say at which input.
  Laid BY PROGRAM, IN A SANDBOX (cutbox-rows.mjs): the forced cells as the released guide's own fill.sh prints them over the translation 4bf2af7b1c7dbe81… (all of the seat's roots in one cut). By AI agents, Wed Nov 11 2026. No macro, syntax, notation, axiom, sorry.
-/
import Derived.Test.YtcbbkemfgnbcpaaChecked
import GoSem.Claim
import GoSem.ClaimJoined
import GoSem.ClaimMapViews
import Derived.JoinedTies
import Derived.KernelRfl
namespace Go.Proofs.Ytcbbkemfgnbcpaa
/- THE CELL 'sum', in the pinned program and in every row, IS THE sha256 OF THE DUMP (.gsa) THAT YtcbbkemfgnbcpaaProg.lean LOADS. Nothing in Lean hashes anything: it is a label: what it is worth is what the hold of that sum in a sandbox is worth. -/
noncomputable def Try.pinned : Pinned := { name := "ytcbbkemfgnbcpaa", sum := "4bf2af7b1c7dbe81c88bac822fcf1f7ea300b55dcddd3b280e523f720db2f0ce", checked := Try.checked }
namespace Rows
def none {H : Type} : Left H := { results := [], args := [] }

/-- 'coaminglaw13.LmapApart': WHATEVER THE INPUT: true; the input reads as it did. -/
def lmapApartSpec : ChangeSpec := { name := "lmapApart", fn := fun _ => fun
  | [d1, d2] => { results := [.lit (.bool true)], args := [d1, d2] }
  | _ => none }
def lmapApartRow : OpenClaim := { program := "ytcbbkemfgnbcpaa", sum := "4bf2af7b1c7dbe81c88bac822fcf1f7ea300b55dcddd3b280e523f720db2f0ce", func := "coaming/coaminglaw13.LmapApart", spec := "lmapApart", plainKeys := false, apart := false }
def LmapApartSaid : Prop := lmapApartRow.holds Try.pinned (OpenSpec.ofChange lmapApartSpec)

/-- ITS FALSE NEIGHBOUR: 'it returns false'. Refute it at one input. -/
def lmapApartWrong : ChangeSpec := { name := "lmapApart", fn := fun _ => fun
  | [d1, d2] => { results := [.lit (.bool false)], args := [d1, d2] }
  | _ => none }
def LmapApartWrongFalsely : Prop := lmapApartRow.holds Try.pinned (OpenSpec.ofChange lmapApartWrong)

/-- 'coaminglaw13.LmapLast': WHATEVER THE INPUT: true; the input reads as it did. -/
def lmapLastSpec : ChangeSpec := { name := "lmapLast", fn := fun _ => fun
  | [d1, d2] => { results := [.lit (.bool true)], args := [d1, d2] }
  | _ => none }
def lmapLastRow : OpenClaim := { program := "ytcbbkemfgnbcpaa", sum := "4bf2af7b1c7dbe81c88bac822fcf1f7ea300b55dcddd3b280e523f720db2f0ce", func := "coaming/coaminglaw13.LmapLast", spec := "lmapLast", plainKeys := false, apart := false }
def LmapLastSaid : Prop := lmapLastRow.holds Try.pinned (OpenSpec.ofChange lmapLastSpec)

/-- ITS FALSE NEIGHBOUR: 'it returns false'. Refute it at one input. -/
def lmapLastWrong : ChangeSpec := { name := "lmapLast", fn := fun _ => fun
  | [d1, d2] => { results := [.lit (.bool false)], args := [d1, d2] }
  | _ => none }
def LmapLastWrongFalsely : Prop := lmapLastRow.holds Try.pinned (OpenSpec.ofChange lmapLastWrong)

/-- 'coaminglaw13.LmapOwn': WHATEVER THE INPUT: true; the input reads as it did. -/
def lmapOwnSpec : ChangeSpec := { name := "lmapOwn", fn := fun _ => fun
  | [d] => { results := [.lit (.bool true)], args := [d] }
  | _ => none }
def lmapOwnRow : OpenClaim := { program := "ytcbbkemfgnbcpaa", sum := "4bf2af7b1c7dbe81c88bac822fcf1f7ea300b55dcddd3b280e523f720db2f0ce", func := "coaming/coaminglaw13.LmapOwn", spec := "lmapOwn", unfollowed := true, recurses := true, plainKeys := false, apart := false }
def LmapOwnSaid : Prop := lmapOwnRow.holds Try.pinned (OpenSpec.ofChange lmapOwnSpec)

/-- ITS FALSE NEIGHBOUR: 'it returns false'. Refute it at one input. -/
def lmapOwnWrong : ChangeSpec := { name := "lmapOwn", fn := fun _ => fun
  | [d] => { results := [.lit (.bool false)], args := [d] }
  | _ => none }
def LmapOwnWrongFalsely : Prop := lmapOwnRow.holds Try.pinned (OpenSpec.ofChange lmapOwnWrong)

/-- 'coaminglaw13.LmapDoes': WHATEVER THE INPUT: true; the input reads as it did. -/
def lmapDoesSpec : ChangeSpec := { name := "lmapDoes", fn := fun _ => fun
  | [d] => { results := [.lit (.bool true)], args := [d] }
  | _ => none }
def lmapDoesRow : OpenClaim := { program := "ytcbbkemfgnbcpaa", sum := "4bf2af7b1c7dbe81c88bac822fcf1f7ea300b55dcddd3b280e523f720db2f0ce", func := "coaming/coaminglaw13.LmapDoes", spec := "lmapDoes", unfollowed := true, recurses := true, plainKeys := false, apart := false }
def LmapDoesSaid : Prop := lmapDoesRow.holds Try.pinned (OpenSpec.ofChange lmapDoesSpec)

/-- ITS FALSE NEIGHBOUR: 'it returns false'. Refute it at one input. -/
def lmapDoesWrong : ChangeSpec := { name := "lmapDoes", fn := fun _ => fun
  | [d] => { results := [.lit (.bool false)], args := [d] }
  | _ => none }
def LmapDoesWrongFalsely : Prop := lmapDoesRow.holds Try.pinned (OpenSpec.ofChange lmapDoesWrong)

/-- 'coaminglaw13.LmapSame': WHATEVER THE INPUT: true; the input reads as it did. -/
def lmapSameSpec : ChangeSpec := { name := "lmapSame", fn := fun _ => fun
  | [d] => { results := [.lit (.bool true)], args := [d] }
  | _ => none }
def lmapSameRow : OpenClaim := { program := "ytcbbkemfgnbcpaa", sum := "4bf2af7b1c7dbe81c88bac822fcf1f7ea300b55dcddd3b280e523f720db2f0ce", func := "coaming/coaminglaw13.LmapSame", spec := "lmapSame", unfollowed := true, recurses := true, plainKeys := false, apart := false }
def LmapSameSaid : Prop := lmapSameRow.holds Try.pinned (OpenSpec.ofChange lmapSameSpec)

/-- ITS FALSE NEIGHBOUR: 'it returns false'. Refute it at one input. -/
def lmapSameWrong : ChangeSpec := { name := "lmapSame", fn := fun _ => fun
  | [d] => { results := [.lit (.bool false)], args := [d] }
  | _ => none }
def LmapSameWrongFalsely : Prop := lmapSameRow.holds Try.pinned (OpenSpec.ofChange lmapSameWrong)

/- THE SECOND FORM. 'bulk': how many values and letters a reading holds, each counted each time it is reached (what is shared counts as often as it is met; a slice's spare places count too). A statement '..UptoSaid' is the law's where the arguments, and the package variables that the reading takes, are together of bulk at most 1048576: NARROWER than '..Said'. Prove '..Said' where nothing that the law and all that it calls make is longer than what came in: it says more and counts as full. Else prove '..UptoSaid'. A law counts once. -/
mutual
def uptoBulk {H : Type} : DataW H → Nat
  | .lit (.string bytes) => bytes.length + 1
  | .lit _ => 1
  | .nil => 1
  | .ptr d => uptoBulk d + 1
  | .slice elems spare => uptoBulkAll elems + uptoBulkAll spare + 1
  | .agg parts => uptoBulkAll parts + 1
  | .iface _ d => uptoBulk d + 1
  | .map entries => uptoBulkEntries entries + 1
  | .held _ => 1
def uptoBulkAll {H : Type} : List (DataW H) → Nat
  | [] => 0
  | d :: r => uptoBulk d + uptoBulkAll r
def uptoBulkEntries {H : Type} : List (Lit × DataW H) → Nat
  | [] => 0
  | x :: r => uptoBulkEntry x + uptoBulkEntries r
def uptoBulkEntry {H : Type} : Lit × DataW H → Nat
  | (.string bytes, d) => bytes.length + uptoBulk d + 1
  | (_, d) => uptoBulk d + 1
 end
def uptoSmall : (H : Type) → List (DataW H) → Bool := fun _ ds => decide (uptoBulkAll ds ≤ 1048576)
def OpenSpec.upto (s : _root_.Go.ChangeSpec) : _root_.Go.OpenSpec := { _root_.Go.OpenSpec.ofChange s with cond := some uptoSmall }

/-- 'coaminglaw13.LmapApart', WHERE WHAT IT READS IS OF BULK AT MOST 1048576: true; the input reads as it did. -/
def lmapApartUptoRow : OpenClaim := { program := "ytcbbkemfgnbcpaa", sum := "4bf2af7b1c7dbe81c88bac822fcf1f7ea300b55dcddd3b280e523f720db2f0ce", func := "coaming/coaminglaw13.LmapApart", spec := "lmapApart", plainKeys := false, apart := false, narrowed := true }
def LmapApartUptoSaid : Prop := lmapApartUptoRow.holds Try.pinned (OpenSpec.upto lmapApartSpec)

/-- 'coaminglaw13.LmapLast', WHERE WHAT IT READS IS OF BULK AT MOST 1048576: true; the input reads as it did. -/
def lmapLastUptoRow : OpenClaim := { program := "ytcbbkemfgnbcpaa", sum := "4bf2af7b1c7dbe81c88bac822fcf1f7ea300b55dcddd3b280e523f720db2f0ce", func := "coaming/coaminglaw13.LmapLast", spec := "lmapLast", plainKeys := false, apart := false, narrowed := true }
def LmapLastUptoSaid : Prop := lmapLastUptoRow.holds Try.pinned (OpenSpec.upto lmapLastSpec)

/-- 'coaminglaw13.LmapOwn', WHERE WHAT IT READS IS OF BULK AT MOST 1048576: true; the input reads as it did. -/
def lmapOwnUptoRow : OpenClaim := { program := "ytcbbkemfgnbcpaa", sum := "4bf2af7b1c7dbe81c88bac822fcf1f7ea300b55dcddd3b280e523f720db2f0ce", func := "coaming/coaminglaw13.LmapOwn", spec := "lmapOwn", unfollowed := true, recurses := true, plainKeys := false, apart := false, narrowed := true }
def LmapOwnUptoSaid : Prop := lmapOwnUptoRow.holds Try.pinned (OpenSpec.upto lmapOwnSpec)

/-- 'coaminglaw13.LmapDoes', WHERE WHAT IT READS IS OF BULK AT MOST 1048576: true; the input reads as it did. -/
def lmapDoesUptoRow : OpenClaim := { program := "ytcbbkemfgnbcpaa", sum := "4bf2af7b1c7dbe81c88bac822fcf1f7ea300b55dcddd3b280e523f720db2f0ce", func := "coaming/coaminglaw13.LmapDoes", spec := "lmapDoes", unfollowed := true, recurses := true, plainKeys := false, apart := false, narrowed := true }
def LmapDoesUptoSaid : Prop := lmapDoesUptoRow.holds Try.pinned (OpenSpec.upto lmapDoesSpec)

/-- 'coaminglaw13.LmapSame', WHERE WHAT IT READS IS OF BULK AT MOST 1048576: true; the input reads as it did. -/
def lmapSameUptoRow : OpenClaim := { program := "ytcbbkemfgnbcpaa", sum := "4bf2af7b1c7dbe81c88bac822fcf1f7ea300b55dcddd3b280e523f720db2f0ce", func := "coaming/coaminglaw13.LmapSame", spec := "lmapSame", unfollowed := true, recurses := true, plainKeys := false, apart := false, narrowed := true }
def LmapSameUptoSaid : Prop := lmapSameUptoRow.holds Try.pinned (OpenSpec.upto lmapSameSpec)

end Rows
end Go.Proofs.Ytcbbkemfgnbcpaa
