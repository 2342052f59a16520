/- Contracts of Kind, of package score and of the reference, and of what they call. -/
import Derived.Test.YtcmngedjnccfaaaFn
import Derived.Laws.Externs
import Derived.Deep.RegionWith
namespace Go.Proofs.Ytcmngedjnccfaaa
open Go.RowKit

/-- 2 doubled k times, from 1 on: infinity from 1024 on. -/
def dbl (k : Nat) : Nat := if k < 1024 then (1023 + k) * 4503599627370496 else 9218868437227405312
theorem dbl_all : (List.range 2000).all (fun k => floatBits .mul .f64 4611686018427387904 (dbl k) == some (dbl (k + 1))) = true := by kernel_rfl
theorem dbl_at (k : Nat) (h : k < 2000) : floatBits .mul .f64 4611686018427387904 (dbl k) = some (dbl (k + 1)) := by
  have := List.all_eq_true.1 dbl_all k (List.mem_range.2 h)
  simpa using this

set_option maxRecDepth 100000 in
theorem inf_any (w : World) : Calls Try.prog 28 #[] w fun e w' => e = .returned (.float .f64 9218868437227405312) ∧ w = w' := by
  go_enter Try.func28, Try.ntmps28
  go_wp2
  go_loop [1, 2] (fun x i => ∃ (k : Nat) (y : Nat), k ≤ 2000 ∧ i = .int .i64 k ∧ x = .float .f64 y ∧ y = dbl k) (fun _ i => 2000 - (intOf i).toNat)
  case atStart => exact ⟨0, _, by omega, rfl, rfl, by kernel_rfl⟩
  case round =>
    obtain ⟨k, y, hk, rfl, rfl, hy⟩ := hrel
    have HY := Lib.hid hy
    by_cases hlt : k < 2000
    · have hd := dbl_at k hlt
      rw [← hy] at hd
      clear hy
      have HN : Hid (dbl (k + 1) = dbl (k + 1)) := rfl
      generalize hz : dbl (k + 1) = z at *
      have HZ := Lib.hid hz
      clear hz HN
      have hop := fun (t : TypeId) (w : World) => run_float_arith (P := Try.prog) w .mul t .f64 4611686018427387904 y z hd
      clear hd
      go_wp2_with (simp only [hop])
      go_round
      case rel => exact ⟨k + 1, z, by omega, by go_num, rfl, HZ.out.symm⟩
      case measure => simp [intOf]; omega
    · clear hy
      have hk' : k = 2000 := by omega
      have HK := Lib.hid hk'
      clear hk'
      go_wp2
      go_ret
      refine ⟨?_, rfl⟩
      have : y = 9218868437227405312 := by rw [HY.out, HK.out]; kernel_rfl
      rw [← this]; rfl

/-- What IsInf tells of a sign. -/
def infB (x : Nat) (s : Int) : Bool := if s < 0 then (FloatKind.f64.format.order (Op.negFloat .f64 x) 9218868437227405311 == some .gt) else (FloatKind.f64.format.order x 9218868437227405311 == some .gt)

/-- The tests of score.Kind. -/
def kindS (x : Nat) : Int :=
  if isNan x = true then 1
  else if infB x (-1) = true then 2
  else if infB x 1 = true then 7
  else if (FloatKind.f64.format.order x 0 == some .eq) = true then (if 9223372036854775808 ≤ x then 4 else 5)
  else if (FloatKind.f64.format.order x 0 == some .lt) = true then 3 else 6

theorem isinf_any (x : Nat) (s : Int) (hs : (s == 0) = false) (w : World) : Calls Try.prog 26 #[.float .f64 x, .int .i64 s] w fun e w' => e = .returned (.bool (infB x s)) ∧ w = w' := by
  have hneg : ∀ w : World, (Op.unary .neg (.float .f64 x)).run Try.prog w = .ok (.float .f64 (Op.negFloat .f64 x)) w := fun _ => rfl
  by_cases h : s < 0
  · have HI : Hid (infB x s = (FloatKind.f64.format.order (Op.negFloat .f64 x) 9218868437227405311 == some .gt)) := if_pos h
    go_enter Try.func26, Try.ntmps26
    go_wp2
    go_ret
    exact ⟨congrArg (fun b => Ending.returned (.bool b)) HI.out.symm, rfl⟩
  · have HI : Hid (infB x s = (FloatKind.f64.format.order x 9218868437227405311 == some .gt)) := if_neg h
    go_enter Try.func26, Try.ntmps26
    go_wp2
    go_ret
    exact ⟨congrArg (fun b => Ending.returned (.bool b)) HI.out.symm, rfl⟩

theorem bits_call (x : Nat) (w : World) : (callFunc 34 #[.float .f64 x]).run Try.prog w = .ok (.value (.int .u64 x)) w := by
  rw [run_callFunc_extern (e := Extern.MathFloatBits.float64bits) Try.func34 (by kernel_rfl) (by kernel_rfl) (by kernel_rfl) (by kernel_rfl)]
  rfl

theorem signbit_any (x : Nat) (hx : x < 18446744073709551616) (w : World) : Calls Try.prog 27 #[.float .f64 x] w fun e w' => e = .returned (.bool (decide (9223372036854775808 ≤ x))) ∧ w = w' := by
  have hb := bits_call x
  go_enter Try.func27, Try.ntmps27
  go_wp2
  go_ret
  have e : decide (wrap64 (x : Int) < 0) = decide (9223372036854775808 ≤ x) := by
    rw [decide_eq_decide]
    unfold wrap64
    omega
  exact ⟨congrArg (fun b => Ending.returned (.bool b)) e, rfl⟩

theorem kind_any (x : Nat) (hx : x < 18446744073709551616) (w : World) : Calls Try.prog 12 #[.float .f64 x] w fun e w' => e = .returned (.int .u8 (kindS x)) ∧ w = w' := by
  go_enter Try.func12, Try.ntmps12
  go_wp2_with (first
    | (go_at_call 25; refine (isnan_any _ _).mono ?_; rintro e w' ⟨rfl, rfl⟩)
    | (go_at_call 26; refine (isinf_any _ _ (by decide) _).mono ?_; rintro e w' ⟨rfl, rfl⟩)
    | (go_at_call 27; refine (signbit_any _ hx _).mono ?_; rintro e w' ⟨rfl, rfl⟩))
  all_goals (go_ret; refine ⟨ret_int ?_, rfl⟩; simp_all [kindS])

/-- The tests of the reference's Kind. -/
def kindR (x q : Nat) : Int :=
  if isNan x = true then 1
  else if (FloatKind.f64.format.order x (Op.negFloat .f64 9218868437227405312) == some .eq) = true then 2
  else if (FloatKind.f64.format.order x 0 == some .lt) = true then 3
  else if (FloatKind.f64.format.order x 0 == some .eq) = true then (if (FloatKind.f64.format.order q 0 == some .lt) = true then 4 else 5)
  else if (FloatKind.f64.format.order x 9218868437227405312 == some .eq) = true then 7 else 6
/-- A kind comes back as the reference's tests tell it; nothing but draws happens. -/
def SomeK (x : Nat) (w : World) (e : Ending) (w' : World) : Prop := ∃ q n, Res .quo 4607182418800017408 x q ∧ e = .returned (.int .u8 (kindR x q)) ∧ w' = w.drewN n

attribute [local go_sem] run_fquo

theorem res_some (op : BinOp) (x y : Nat) : ∃ q, Res op x y q := ⟨_, fval_res op x y default⟩

theorem refkind_any (x : Nat) (w : World) : Calls Try.prog 13 #[.float .f64 x] w (SomeK x w) := by
  have hneg : ∀ w : World, (Op.unary .neg (.float .f64 9218868437227405312)).run Try.prog w = .ok (.float .f64 (Op.negFloat .f64 9218868437227405312)) w := fun _ => rfl
  obtain ⟨q0, hq0⟩ := res_some .quo 4607182418800017408 x
  have HQ := Lib.hid hq0
  clear hq0
  generalize hup : Op.negFloat .f64 9218868437227405312 = up at *
  have HU := Lib.hid hup
  clear hup
  by_cases h0 : (FloatKind.f64.format.order x 0 == some .eq) = true
  · go_enter Try.func13, Try.ntmps13
    go_wp2_with (first
      | (go_at_call 28; refine (inf_any _).mono ?_; rintro e w' ⟨rfl, rfl⟩)
      | (go_at_call 29; refine (none_any _ _).mono ?_; rintro e w' ⟨rfl, rfl⟩))
    all_goals go_ret
    all_goals first
      | (refine ⟨q0, 0, HQ.out, ret_int ?_, rfl⟩; have := HU.out; simp_all [kindR]; done)
      | (refine ⟨_, _, fval_res _ _ _ w, ret_int ?_, rfl⟩; have := HU.out; simp_all [kindR]; done)
  · have h0' : (FloatKind.f64.format.order x 0 == some .eq) = false := by simpa using h0
    clear h0
    go_enter Try.func13, Try.ntmps13
    go_wp2_with (first
      | (go_at_call 28; refine (inf_any _).mono ?_; rintro e w' ⟨rfl, rfl⟩)
      | (go_at_call 29; refine (none_any _ _).mono ?_; rintro e w' ⟨rfl, rfl⟩))
    all_goals go_ret
    all_goals (refine ⟨q0, 0, HQ.out, ret_int ?_, rfl⟩; have := HU.out; simp_all [kindR]; done)
end Go.Proofs.Ytcmngedjnccfaaa
