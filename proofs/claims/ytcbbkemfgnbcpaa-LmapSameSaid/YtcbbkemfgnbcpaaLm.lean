/- Package lmap's map: how its keys are told; what it holds; its contracts. -/
import Derived.Test.YtcbbkemfgnbcpaaChecked
import Derived.Test.YtcbbkemfgnbcpaaMv
import Derived.WalkKit
import Derived.WalkLawsBesides
import Derived.BigQuiet
import Derived.Deep.QuietTactic
import Derived.Deep.RegionWith
import Derived.Deep.RegionHeld3
import Derived.Lib.Hide
import Derived.Handy
namespace Go.Proofs.Ytcbbkemfgnbcpaa
open Go.RowKit
open Go.Maps (Keyed)

def nameV (n : Int × Int) : Value := .agg #[.int .u32 n.1, .int .u64 n.2]
def addrV (a : Int × Int) : Value := .agg #[.int .i64 a.1, .int .i64 a.2]
def NameOk (n : Int × Int) : Prop := (0 ≤ n.1 ∧ n.1 ≤ 4294967295) ∧ 0 ≤ n.2 ∧ n.2 ≤ 18446744073709551615
def AddrOk (a : Int × Int) : Prop := (-9223372036854775808 ≤ a.1 ∧ a.1 ≤ 9223372036854775807) ∧ -9223372036854775808 ≤ a.2 ∧ a.2 ≤ 9223372036854775807

theorem keys_laid : laidOutB Try.prog = true := by kernel_rfl
theorem keys_own : Try.prog.keyType 62 = true ∧ Try.prog.keyType 31 = true := by constructor <;> kernel_rfl
theorem keys_size : Try.prog.types.size + 1 = (Try.prog.types.size - 1) + 1 + 1 := by kernel_rfl
theorem keys_cells : Try.prog.cellsOf 62 = 2 ∧ Try.prog.cellsOf 31 = 2 ∧ Try.prog.cellsOf 23 = 1 ∧ Try.prog.cellsOf 29 = 1 ∧ Try.prog.cellsOf 3 = 1 := by refine ⟨?_, ?_, ?_, ?_, ?_⟩ <;> kernel_rfl

theorem nameV_key (n : Int × Int) (h : NameOk n) : ∃ kl, keyOf Try.prog 62 (nameV n) = some kl := by
  have h1 : (Lit.int .u32 n.1).wf = true := WalkArith.wf_u32 h.1
  have h2 : (Lit.int .u64 n.2).wf = true := WalkArith.wf_u64 h.2
  obtain ⟨c1, c2, c3, c4, c5⟩ := keys_cells
  obtain ⟨m, hm⟩ : ∃ m, Try.prog.types.size + 1 = m + 1 + 1 := ⟨_, keys_size⟩
  unfold keyOf
  rw [hm]
  clear hm
  simp [Try.underlying62, keys_own.1, nameV, Value.formed, Value.cells, Program.keyLits, Try.underlying23, Try.underlying29, c1, c3, c4, h1, h2]

theorem addrV_key (n : Int × Int) (h : AddrOk n) : ∃ kl, keyOf Try.prog 31 (addrV n) = some kl := by
  have h1 : (Lit.int .i64 n.1).wf = true := WalkArith.wf_i64 h.1
  have h2 : (Lit.int .i64 n.2).wf = true := WalkArith.wf_i64 h.2
  obtain ⟨c1, c2, c3, c4, c5⟩ := keys_cells
  obtain ⟨m, hm⟩ : ∃ m, Try.prog.types.size + 1 = m + 1 + 1 := ⟨_, keys_size⟩
  unfold keyOf
  rw [hm]
  clear hm
  simp [Try.underlying31, keys_own.2, addrV, Value.formed, Value.cells, Program.keyLits, Try.underlying3, c2, c5, h1, h2]

theorem name_row : (62 : TypeId) < Try.prog.types.size := of_decide_eq_true (by kernel_rfl)
theorem addr_row : (31 : TypeId) < Try.prog.types.size := of_decide_eq_true (by kernel_rfl)
theorem name_law : WideMaps.KeyLaw Try.prog 62 := deep_law_laid keys_laid (m := 2) (by omega) name_row (by kernel_rfl) (by rw [Try.underlying62])
theorem addr_law : WideMaps.KeyLaw Try.prog 31 := deep_law_laid keys_laid (m := 2) (by omega) addr_row (by kernel_rfl) (by rw [Try.underlying31])
def nameC : KeyCode Try.prog 62 (Int × Int) where
  law := Keyed.of_law name_law
  kv := nameV
  ok := NameOk
  isKey := nameV_key
  inj := by
    rintro ⟨a1, a2⟩ ⟨b1, b2⟩ h
    simp [nameV] at h
    rw [h.1, h.2]
def addrC : KeyCode Try.prog 31 (Int × Int) where
  law := Keyed.of_law addr_law
  kv := addrV
  ok := AddrOk
  isKey := addrV_key
  inj := by
    rintro ⟨a1, a2⟩ ⟨b1, b2⟩ h
    simp [addrV] at h
    rw [h.1, h.2]
def U32Ok (t : Int) : Prop := 0 ≤ t ∧ t ≤ 4294967295
def u32C : KeyCode Try.prog 23 Int where
  law := Maps.int_keyed Try.underlying23
  kv := .int .u32
  ok := U32Ok
  isKey := fun t h => ⟨_, Maps.keyOf_int_mk Try.underlying23 (WalkArith.wf_u32 h)⟩
  inj := by
    intro a b h
    injection h
end Go.Proofs.Ytcbbkemfgnbcpaa
