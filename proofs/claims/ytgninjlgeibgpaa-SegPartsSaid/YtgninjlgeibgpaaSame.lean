/- coamingref00.SameInts on two lists of the same numbers. -/
import Derived.Test.YtgninjlgeibgpaaSg
namespace Go.Proofs.Ytgninjlgeibgpaa
open Go.RowKit

theorem sameInts_same (xs : List Int) (A A' : Option Addr) (c c' B B' : Nat) (w : World) (hl : xs.length ≤ 1000000) (hr : Reads w B 1 A xs.length (nums .i64 xs)) (hr' : Reads w B' 1 A' xs.length (nums .i64 xs)) :
    Calls Try.prog 22 #[.slice A xs.length c, .slice A' xs.length c'] w (Gives (.bool true) w) := by
  have HR := Lib.hid (fun i (hi : i < xs.length) => hr.num hi)
  have HR' := Lib.hid (fun i (hi : i < xs.length) => hr'.num hi)
  clear hr hr'
  go_enter Try.func22, Try.ntmps22
  go_wp2
  go_loopw [5] (fun i wr => ∃ k n : Nat, k ≤ xs.length ∧ i = .int .i64 k ∧ wr = w.drewN n) (fun i _ => xs.length - (intOf i).toNat)
  case atStart => exact ⟨0, 0, Nat.zero_le _, rfl, rfl⟩
  case round =>
    obtain ⟨k, n, hk, rfl, rfl⟩ := hrel
    by_cases hlt : k < xs.length
    · obtain ⟨ad, rfl, _, hc⟩ := HR.out k hlt
      obtain ⟨ad', rfl, _, hc'⟩ := HR'.out k hlt
      generalize xs.getD k 0 = y at *
      go_wp2_with (fail)
      go_quiet (fail)
      go_wp2
      go_roundw
      case rel => exact ⟨k + 1, _, by omega, by go_num, rfl⟩
      case measure => simp [intOf]; omega
    · have hkk : k = xs.length := by omega
      subst hkk
      go_wp2
      go_ret
      exact ⟨rfl, n, rfl⟩
end Go.Proofs.Ytgninjlgeibgpaa
