/- Joined texts: Open. -/
import Derived.Test.YtfabgbmbnmbjkaaGreatDoorRaa
import Derived.Lib.SmallJoins
import Derived.Deep.SlicePairs
import Derived.ChangeSlices
import Derived.Test.YtfabgbmbnmbjkaaGreatDoorRab
/- Pruned. -/
namespace Go.Proofs.YtfabgbmbnmbjkaaGreatDoor
open Go.ChangeShapes Go.WideShapes Go.ChangeAt Go.RowKit
set_option maxRecDepth 20000
theorem wf_i64 {n : Int} (h : (Lit.int .i64 n).wf = true) : -9223372036854775808 <= n ∧ n <= 9223372036854775807 := by
 simpa [Lit.wf, IntKind.min, IntKind.max, IntKind.signed, IntKind.bits] using h
theorem open_shape {H : Type} {enc : TypeId × Value -> H} {W : World} {base : Nat} {sp : Nat -> Bool} {held : Bool} {v : Value} {d : DataW H} {p : List MemPlace} {b : Nat}
    (hv : Value.okWide Tryz.prog W .any b 23 v) (h : DataW.Trod enc Tryz.prog W base sp held 23 v d p) :
    ∃ z zb bl rs : Int, v = .agg #[.int .i64 z, .int .i64 zb, .int .i64 bl, .int .i64 rs] ∧ (-9223372036854775808 <= z ∧ z <= 9223372036854775807) ∧ (-9223372036854775808 <= bl ∧ bl <= 9223372036854775807) ∧ (-9223372036854775808 <= rs ∧ rs <= 9223372036854775807) := by
 obtain ⟨v0, v1, v2, v3, y0, y1, y2, y3, n, rfl, _, _, h0, h1, h2, h3⟩ := Go.Joins.open_agg4 Tryz.underlying23 (by kernel_rfl) (by kernel_rfl) hv h
 obtain ⟨a0, e0, _, w0⟩ := DataW.trod_int Tryz.underlying3 h0
 obtain ⟨a1, e1, _, _⟩ := DataW.trod_int Tryz.underlying3 h1
 obtain ⟨a2, e2, _, w2⟩ := DataW.trod_int Tryz.underlying3 h2
 obtain ⟨a3, e3, _, w3⟩ := DataW.trod_int Tryz.underlying3 h3
 injection e0 with e0
 injection e1 with e1
 injection e2 with e2
 injection e3 with e3
 subst e0 e1 e2 e3
 exact ⟨a0, a1, a2, a3, rfl, wf_i64 w0, wf_i64 w2, wf_i64 w3⟩
section
variable {H : Type} {enc : TypeId × Value -> H} {P : Program} {w : World} {base : Nat} {sp : Nat -> Bool} {held : Bool}
end
end Go.Proofs.YtfabgbmbnmbjkaaGreatDoor

