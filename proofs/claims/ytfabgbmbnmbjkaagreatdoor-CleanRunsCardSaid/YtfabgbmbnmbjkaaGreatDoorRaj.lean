/- Joined texts: Sg. -/
import Derived.Test.YtfabgbmbnmbjkaaGreatDoorChecked
import Derived.Test.YtfabgbmbnmbjkaaGreatDoorRab
import Derived.WalkKit
import Derived.WalkLawsBesides
import Derived.BigQuiet
import Derived.Deep.QuietTactic
import Derived.Deep.RegionWith
import Derived.Lib.Hide
import Derived.Laws.CopyOwn
import Derived.Laws.MakeOwn
/- Pruned. -/
namespace Go.Proofs.YtfabgbmbnmbjkaaGreatDoor
open Go.RowKit
def rightB (z zb bl rs : Int) : Bool := decide (6 <= z ∧ z <= 256 ∧ 8 <= zb ∧ zb <= 4096 ∧ (bl = 64 ∨ bl = 128 ∨ bl = 256 ∨ bl = 512 ∨ bl = 1024 ∨ bl = 2048 ∨ bl = 4096) ∧ 2 <= rs ∧ rs <= z - 4)
def powB (bl : Int) : Bool := bits .and .i64 bl (bl - 1) != 0
theorem pow_all : (List.range 4097).all (fun n => decide (n < 64) || (powB n == !(n == 64 || n == 128 || n == 256 || n == 512 || n == 1024 || n == 2048 || n == 4096))) = true := by kernel_rfl
theorem pow_at (bl : Int) (h1 : 64 <= bl) (h2 : bl <= 4096) : powB bl = !decide (bl = 64 ∨ bl = 128 ∨ bl = 256 ∨ bl = 512 ∨ bl = 1024 ∨ bl = 2048 ∨ bl = 4096) := by
 obtain ⟨n, rfl⟩ := Int.eq_ofNat_of_zero_le (show 0 <= bl by omega)
 have := List.all_eq_true.1 pow_all n (List.mem_range.2 (by omega))
 simp only [Bool.or_eq_true, decide_eq_true_eq, beq_iff_eq] at this
 rcases this with h | h
 · omega
 · rw [h]
   congr 1
   rw [Bool.eq_iff_iff]
   simp
   omega
theorem pow_t (bl : Int) (h1 : 64 <= bl) (h2 : bl <= 4096) (h : (bits .and .i64 bl (bl - 1) != 0) = true) : ¬ (bl = 64 ∨ bl = 128 ∨ bl = 256 ∨ bl = 512 ∨ bl = 1024 ∨ bl = 2048 ∨ bl = 4096) := by
 have := pow_at bl h1 h2
 unfold powB at this
 rw [h] at this
 simpa using this.symm
theorem pow_f (bl : Int) (h1 : 64 <= bl) (h2 : bl <= 4096) (h : (bits .and .i64 bl (bl - 1) != 0) = false) : bl = 64 ∨ bl = 128 ∨ bl = 256 ∨ bl = 512 ∨ bl = 1024 ∨ bl = 2048 ∨ bl = 4096 := by
 have := pow_at bl h1 h2
 unfold powB at this
 rw [h] at this
 exact of_decide_eq_true (by simpa only [Bool.not_eq_eq_eq_not, Bool.not_false] using this.symm)
theorem right_any (z zb bl rs : Int) (w : World) (hz : -9223372036854775808 <= z ∧ z <= 9223372036854775807) (hb : -9223372036854775808 <= bl ∧ bl <= 9223372036854775807) :
    Calls Tryz.prog 82 #[.agg #[.int .i64 z, .int .i64 zb, .int .i64 bl, .int .i64 rs]] w (Makes (.bool (rightB z zb bl rs)) w) := by
 go_enter Tryz.func82, Tryz.ntmps82
 go_wp2
 all_goals go_ret
 all_goals refine ⟨?_, (Below.refl _ _).alloc (Nat.le_refl _) _⟩
 all_goals first
   | exact ret_bool (decide_eq_false (by omega)).symm
   | exact ret_bool (decide_eq_false (by have := pow_t bl (by omega) (by omega) (by assumption); omega)).symm
   | (have hp := pow_f bl (by omega) (by omega) (by assumption)
      exact ret_bool (decide_eq_decide.2 (by omega)))
def PW (bl : Int) : Prop := bl = 64 ∨ bl = 128 ∨ bl = 256 ∨ bl = 512 ∨ bl = 1024 ∨ bl = 2048 ∨ bl = 4096
instance (bl : Int) : Decidable (PW bl) := by unfold PW; infer_instance
def PX (x : Int) : Prop := x = 64 ∨ x = 128 ∨ x = 256 ∨ x = 512 ∨ x = 1024 ∨ x = 2048 ∨ x = 4096 ∨ x = 8192
theorem pw_step (x bl : Int) (hx : PX x) (h : x <= 4096) : PX (2 * x) ∧ (decide (PW bl ∧ bl < 2 * x) = (decide (PW bl ∧ bl < x) || (x == bl))) := by
 refine ⟨by unfold PX at *; omega, ?_⟩
 rw [Bool.eq_iff_iff]
 simp only [Bool.or_eq_true, decide_eq_true_eq, beq_iff_eq]
 unfold PX PW at *
 omega
theorem refright_any (z zb bl rs : Int) (w : World) (hz : -9223372036854775808 <= z ∧ z <= 9223372036854775807) :
    Calls Tryz.prog 91 #[.agg #[.int .i64 z, .int .i64 zb, .int .i64 bl, .int .i64 rs]] w (Makes (.bool (rightB z zb bl rs)) w) := by
 go_enter Tryz.func91, Tryz.ntmps91
 go_wp2
 go_loop [3, 4] (fun q i => ∃ (x : Int) (b : Bool), i = .int .i64 x ∧ q = .bool b ∧ PX x ∧ b = decide (PW bl ∧ bl < x)) (fun _ i => 8192 - (intOf i).toNat)
 case atStart => exact ⟨64, false, rfl, rfl, .inl rfl, by symm; rw [decide_eq_false_iff_not]; unfold PW; omega⟩
 case round =>
  obtain ⟨x, b, rfl, rfl, hx, hb⟩ := hrel
  have HX := Lib.hid hx
  have HB := Lib.hid hb
  have hxr : 64 <= x ∧ x <= 8192 := by unfold PX at hx; omega
  by_cases hlast : 4096 < x
  · have hbw : b = decide (PW bl) := by
     rw [hb, decide_eq_decide]
     unfold PX at hx
     unfold PW
     omega
    have HBW := Lib.hid hbw
    clear hx hb hbw
    cases b
    · have hnp := of_decide_eq_false HBW.out.symm
      unfold PW at hnp
      have HN := Lib.hid hnp
      clear hnp
      go_wp2
      all_goals go_ret
      all_goals (refine ⟨?_, (Below.refl _ _).alloc (Nat.le_refl _) _⟩; have hnp := HN.out; exact ret_bool (decide_eq_false (by omega)).symm)
    · have hnp := of_decide_eq_true HBW.out.symm
      unfold PW at hnp
      have HN := Lib.hid hnp
      clear hnp
      go_wp2
      all_goals go_ret
      all_goals (refine ⟨?_, (Below.refl _ _).alloc (Nat.le_refl _) _⟩; have hnp := HN.out)
      all_goals first
        | exact ret_bool (decide_eq_false (by omega)).symm
        | exact ret_bool (decide_eq_decide.2 (by omega))
  · have HS := Lib.hid (pw_step x bl hx (by omega))
    clear hx hb
    cases b
    all_goals
     go_wp2
     go_round
     case rel => exact ⟨2 * x, _, by go_num, rfl, HS.out.1, by rw [HS.out.2, <- HB.out]; rfl⟩
     case measure => simp [intOf]; omega
theorem mul_one_any (n : Nat) (hn : n <= 65536) (w : World) : Calls Tryz.prog 214 #[.int .u64 1, .int .u64 n] w fun e w' => e = .returned (.tuple #[.int .u64 0, .int .u64 n]) ∧ w = w' := by
 have h1 : bits .and .u64 1 4294967295 = 1 := by kernel_rfl
 have h0 : bits .and .u64 0 4294967295 = 0 := by kernel_rfl
 have h2 : bits .and .u64 (n : Int) 4294967295 = n := by
  have e := u64_and_nat n 4294967295 (by omega) (by omega)
  rw [show ((4294967295 : Nat) : Int) = 4294967295 from rfl] at e
  rw [e, show (4294967295 : Nat) = 2 ^ 32 - 1 from rfl, Nat.and_two_pow_sub_one_eq_mod, Nat.mod_eq_of_lt (by omega)]
 have h3 : (n : Int) / 4294967296 = 0 := by omega
 go_enter Tryz.func214, Tryz.ntmps214
 go_wp2
 go_ret2
 exact ⟨rfl, rfl⟩
theorem mulu_any (n : Nat) (hn : n <= 65536) (w : World) : Calls Tryz.prog 190 #[.int .u64 1, .int .u64 n] w fun e w' => e = .returned (.tuple #[.int .u64 0, .int .u64 n]) ∧ w = w' := by
 have H := Lib.hid (mul_one_any n hn)
 go_enter Tryz.func190, Tryz.ntmps190
 go_wp2_with (go_at_call 214; refine (H.out _).mono ?_; rintro e w' ⟨rfl, rfl⟩)
 go_ret2
 exact ⟨rfl, rfl⟩
end Go.Proofs.YtfabgbmbnmbjkaaGreatDoor

