/- Package lmap's In: a zone's places, by their blocks. -/
import Derived.Test.YtcbbkemfgnbcpaaSo
import Derived.Maps.RangeWalk
namespace Go.Proofs.Ytcbbkemfgnbcpaa
open Go.RowKit Go.Sort Go.Shelf

theorem insNone (p : Option Addr) (cap : Nat) (fv : Value) (w : World) : Calls Try.prog 49 #[.slice p 0 cap, .int .i64 0, .int .i64 0, fv] w fun e w' => e = .returned (.tuple #[]) ∧ w' = w := by
  go_enter Try.func49, Try.ntmps49
  go_wp2
  refine wp_loop_rounds 1 ?_
  rw [rounds_succ]
  go_wp2
  go_end0
  exact ⟨rfl, rfl⟩
set_option maxHeartbeats 2000000 in
theorem pdqNone (p : Option Addr) (cap : Nat) (lim : Int) (fv : Value) (w : World) : Calls Try.prog 42 #[.slice p 0 cap, .int .i64 0, .int .i64 0, .int .i64 lim, fv] w fun e w' => e = .returned (.tuple #[]) ∧ w' = w := by
  have hi := fun W => insNone p cap fv W
  go_enter Try.func42, Try.ntmps42
  go_wp2
  refine wp_loop_rounds 1 ?_
  rw [rounds_succ]
  go_wp2_with (go_at_call 49; refine (hi _).mono ?_; rintro e w' ⟨rfl, rfl⟩)
  (try simp only [Exit.inBlock, Exit.then]); refine bodyPost_ret (results_none rfl _ _ _) rfl ?_
  exact ⟨rfl, rfl⟩
set_option maxHeartbeats 2000000 in
theorem sortNone (p : Option Addr) (cap : Nat) (fv : Value) (w : World) : Calls Try.prog 32 #[.slice p 0 cap, fv] w fun e w' => e = .returned (.tuple #[]) ∧ w' = w := by
  have hi := fun W lim => pdqNone p cap lim fv W
  go_enter Try.func32, Try.ntmps32
  go_wp2_with (first | (go_at_call 42; refine (hi _ _).mono ?_; rintro e w' ⟨rfl, rfl⟩) | go_in)
  go_end0
  exact ⟨rfl, rfl⟩
end Go.Proofs.Ytcbbkemfgnbcpaa
