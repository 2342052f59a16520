/- Joined texts: Op. -/
import Derived.Test.YtfabgbmbnmbjkaaGreatDoorMaa
import Derived.Test.YtfabgbmbnmbjkaaGreatDoorMae
import Derived.ChangeArms
import Derived.Deep.Slices
import Derived.WideShapes
/- Calls of package lmap among a law's arguments, opened: one, and a list of them. -/
namespace Go.Proofs.YtfabgbmbnmbjkaaGreatDoor
open Go.ChangeShapes Go.WideShapes Go.ChangeAt Go.RowKit

/-- A call: Put, or Drop. -/
structure Ox where
  d : Bool
  p : Pl
def o0 : Ox := ⟨false, p0⟩
instance : Inhabited Ox := ⟨o0⟩
def opV (o : Ox) : Value := .agg #[.bool o.d, .int .u32 o.p.t, .int .u64 o.p.b, .int .i64 o.p.z, .int .i64 o.p.k]
def OxOk (o : Ox) : Prop := NameOk o.p.n ∧ AddrOk o.p.a

theorem wf_i64' {n : Int} (h : (Lit.int .i64 n).wf = true) : -9223372036854775808 ≤ n ∧ n ≤ 9223372036854775807 := by
  simpa [Lit.wf, IntKind.min, IntKind.max, IntKind.signed, IntKind.bits] using h
theorem wf_u32' {n : Int} (h : (Lit.int .u32 n).wf = true) : 0 ≤ n ∧ n ≤ 4294967295 := by
  simpa [Lit.wf, IntKind.min, IntKind.max, IntKind.signed, IntKind.bits] using h
theorem wf_u64' {n : Int} (h : (Lit.int .u64 n).wf = true) : 0 ≤ n ∧ n ≤ 18446744073709551615 := by
  simpa [Lit.wf, IntKind.min, IntKind.max, IntKind.signed, IntKind.bits] using h

section
variable {H : Type} {enc : TypeId × Value → H} {w : World} {base : Nat} {sp : Nat → Bool} {held : Bool}

/-- A call stands at this place. -/
def OpAt (w : World) (a : Addr) (o : Ox) : Prop :=
  w.cell? a = some (.bool o.d) ∧ w.cell? ⟨a.block, a.off + 1, none⟩ = some (.int .u32 o.p.t) ∧ w.cell? ⟨a.block, a.off + 2, none⟩ = some (.int .u64 o.p.b) ∧ w.cell? ⟨a.block, a.off + 3, none⟩ = some (.int .i64 o.p.z) ∧ w.cell? ⟨a.block, a.off + 4, none⟩ = some (.int .i64 o.p.k)
theorem OpAt.below {w' : World} {B : Nat} {a : Addr} {o : Ox} (h : OpAt w a o) (hb : Below B w w') (ha : a.block < B) : OpAt w' a o :=
  ⟨(hb.cell ha).trans h.1, (hb.cell (p := ⟨a.block, a.off + 1, none⟩) ha).trans h.2.1, (hb.cell (p := ⟨a.block, a.off + 2, none⟩) ha).trans h.2.2.1, (hb.cell (p := ⟨a.block, a.off + 3, none⟩) ha).trans h.2.2.2.1, (hb.cell (p := ⟨a.block, a.off + 4, none⟩) ha).trans h.2.2.2.2⟩
/-- A list of calls stands in memory. -/
def OpsAt (w : World) (B : Nat) (A : Option Addr) (l : List Ox) : Prop := ∀ i, i < l.length → ∃ ad, A = some ad ∧ ad.block < B ∧ OpAt w (ad.add (i * 5)) (l.getD i o0)
theorem OpsAt.below {w' : World} {B : Nat} {A : Option Addr} {l : List Ox} (h : OpsAt w B A l) (hb : Below B w w') : OpsAt w' B A l := fun i hi => by
  obtain ⟨ad, e, hl, h1⟩ := h i hi
  exact ⟨ad, e, hl, h1.below hb (by rw [block_of_add]; exact hl)⟩

end
end Go.Proofs.YtfabgbmbnmbjkaaGreatDoor

