/- Joined texts: Op. -/
import Derived.Test.YtfabgbmbnmbjkaaGreatDoorRaa
import Derived.Test.YtfabgbmbnmbjkaaGreatDoorRae
import Derived.ChangeArms
import Derived.Deep.Slices
import Derived.WideShapes
/- Pruned. -/
namespace Go.Proofs.YtfabgbmbnmbjkaaGreatDoor
open Go.ChangeShapes Go.WideShapes Go.ChangeAt Go.RowKit
structure Ox where
  d : Bool
  p : Pl
def o0 : Ox := ⟨false, p0⟩
instance : Inhabited Ox := ⟨o0⟩
theorem wf_i64' {n : Int} (h : (Lit.int .i64 n).wf = true) : -9223372036854775808 <= n ∧ n <= 9223372036854775807 := by
 simpa [Lit.wf, IntKind.min, IntKind.max, IntKind.signed, IntKind.bits] using h
theorem wf_u32' {n : Int} (h : (Lit.int .u32 n).wf = true) : 0 <= n ∧ n <= 4294967295 := by
 simpa [Lit.wf, IntKind.min, IntKind.max, IntKind.signed, IntKind.bits] using h
theorem wf_u64' {n : Int} (h : (Lit.int .u64 n).wf = true) : 0 <= n ∧ n <= 18446744073709551615 := by
 simpa [Lit.wf, IntKind.min, IntKind.max, IntKind.signed, IntKind.bits] using h
section
variable {H : Type} {enc : TypeId × Value -> H} {w : World} {base : Nat} {sp : Nat -> Bool} {held : Bool}
end
end Go.Proofs.YtfabgbmbnmbjkaaGreatDoor

