/- ScoreRatios: for every a, b and c: a part of a whole lies from 0 to 1, the whole is 1, more of it is no less, the whole is worth nothing; of nothing it is no number, or infinity; the chapter's examples stand: the law answers true and changes nothing. No condition. -/
import Derived.Test.YtcmngedjnccfaaaMo
import Derived.Test.YtcmngedjnccfaaaLaw
namespace Go.Proofs.Ytcmngedjnccfaaa
open Go.ChangeShapes Go.WideShapes Go.ChangeAt Go.RowKit Fl

theorem read_zero : Ieee.double.read 0 = .number false 0 (-1074) := by kernel_rfl
/-- Something by nothing is infinity. -/
theorem ratio_inf_any {a r : Nat} (ha : a < 18446744073709551616) (h0 : 0 < a) (h : RatioIs a 0 r) : r = 9218868437227405312 := by
  have hlt := ofu_lt ha
  have hp := ofu_pos h0
  have hR := R_lt
  obtain ⟨m, k, e, hv⟩ := read_num (x := ofu a) (by rw [Nat.mod_eq_of_lt (by omega)]; exact hlt)
  rw [ng_small (by omega)] at e
  rw [Nat.mod_eq_of_lt (by omega)] at hv
  have hm : m ≠ 0 := by rintro rfl; have := V_pos hp; rw [Nat.zero_mul] at hv; omega
  refine Res.eq h ?_
  have hz : ofu 0 = 0 := by kernel_rfl
  rw [hz]
  show Ieee.double.div (ofu a) 0 = _
  unfold Ieee.Format.div
  rw [e, read_zero]
  simp only [Ieee.Datum.quotient, if_true, if_neg hm]
  rfl

theorem eq_rung {x y : Nat} (hx : x ≤ R) (h : x = y) : (FloatKind.f64.format.order x y == some .eq) = true := by
  subst h
  rw [eq_key (nan_rung hx) (nan_rung hx)]
  simp

theorem ratios_nought (a b : Nat) (ha : a < 18446744073709551616) (w : World) : Calls Try.prog 8 #[.int .u64 a, .int .u64 b, .int .u64 0] w (Okay w) := by
  have HW := Lib.hid (fun w => known_any w)
  by_cases h0 : a = 0
  · subst h0
    go_enter Try.func8, Try.ntmps8
    go_wp2_with (fail)
    refine (HW.out _).mono ?_
    rintro e w1 ⟨rfl, hb1⟩
    go_wp2_with (fail)
    refine (ratio_any _ _ _).mono ?_
    rintro e w' ⟨r1, n1, k1, rfl, rfl⟩
    have k2 := ratio_nan k1
    have HK := Lib.hid (fun w => kind_any r1 (Res.lt k1) w)
    rw [kind_nan k2] at HK
    clear k1 k2
    go_wp2_with (fail)
    refine (HK.out _).mono ?_
    rintro e w' ⟨rfl, rfl⟩
    go_wp2
    go_ret
    exact ⟨rfl, below_drewN hb1 _⟩
  · have hz : ((a : Int) == 0) = false := by simp; omega
    go_enter Try.func8, Try.ntmps8
    go_wp2_with (fail)
    refine (HW.out _).mono ?_
    rintro e w1 ⟨rfl, hb1⟩
    go_wp2_with (fail)
    refine (ratio_any _ _ _).mono ?_
    rintro e w' ⟨r1, n1, k1, rfl, rfl⟩
    have k2 := ratio_nan k1
    have HK := Lib.hid (fun w => kind_any r1 (Res.lt k1) w)
    rw [kind_nan k2] at HK
    clear k1 k2
    go_wp2_with (fail)
    refine (HK.out _).mono ?_
    rintro e w' ⟨rfl, rfl⟩
    clear HK
    go_wp2_with (fail)
    refine (ratio_any _ _ _).mono ?_
    rintro e w' ⟨r2, n2, k1, rfl, rfl⟩
    obtain rfl := ratio_inf_any ha (by omega) k1
    clear k1
    go_wp2_with (fail)
    refine (kind_any _ (by decide) _).mono ?_
    rintro e w' ⟨rfl, rfl⟩
    rw [kind_inf]
    go_wp2
    go_ret
    exact ⟨rfl, below_drewN hb1 _⟩

theorem ratios_parts (a b c : Nat) (ha : a < 18446744073709551616) (hb : b < 18446744073709551616) (hc : c < 18446744073709551616) (h0 : 0 < c) (w : World) : Calls Try.prog 8 #[.int .u64 a, .int .u64 b, .int .u64 c] w (Okay w) := by
  have HW := Lib.hid (fun w => known_any w)
  have hz : ((c : Int) == 0) = false := by simp; omega
  rcases Nat.lt_trichotomy a b with hab | rfl | hab
  all_goals
    go_enter Try.func8, Try.ntmps8
    go_wp2_with (fail)
    refine (ratio_any _ _ _).mono ?_
    rintro e w' ⟨r1, n1, k1, rfl, rfl⟩
    go_wp2_with (fail)
    refine (ratio_any _ _ _).mono ?_
    rintro e w' ⟨r2, n2, k2, rfl, rfl⟩
    go_wp2_with (fail)
    refine (ratio_any _ _ _).mono ?_
    rintro e w' ⟨r3, n3, k3, rfl, rfl⟩
    go_wp2_with (fail)
    refine (ratio_any _ _ _).mono ?_
    rintro e w' ⟨r4, n4, k4, rfl, rfl⟩
    rw [← Int.natCast_emod] at k1
    have q0 := ratio_le (Nat.le_of_lt (Nat.mod_lt _ h0)) hc h0 k1
    have q1 := geq_rung (ratio_fits (Nat.lt_of_le_of_lt (Nat.le_of_lt (Nat.mod_lt _ h0)) hc) hc h0 k1) (Nat.zero_le r1)
    have q2 : (FloatKind.f64.format.order r1 4607182418800017408 == some .lt || FloatKind.f64.format.order r1 4607182418800017408 == some .eq) = true := leq_rung (y := one) (Nat.le_of_lt one_lt) q0
    have q3 : (FloatKind.f64.format.order r2 4607182418800017408 == some .eq) = true := eq_rung (y := one) (by rw [ratio_one hc h0 k2]; exact Nat.le_of_lt one_lt) (ratio_one hc h0 k2)
    have q4 := leq_rung (ratio_fits (by omega) hc h0 k4) (ratio_mono (by omega) (by omega) hc h0 (by omega) k3 k4)
    clear k1 k2 k3 k4 q0
    go_wp2_with (fail)
    refine (HW.out _).mono ?_
    rintro e w1 ⟨rfl, hb1⟩
    go_wp2_with (fail)
    refine (worth_any _ _ _ _).mono ?_
    rintro e w' ⟨r5, n5, k5, rfl, rfl⟩
    obtain rfl := worth_whole hc h0 (by omega) k5
    have q5 : (FloatKind.f64.format.order 0 0 == some .eq) = true := by kernel_rfl
    clear k5
    go_wp2
    go_ret
    exact ⟨rfl, below_drewN ((below_drewN (Below.refl _ _) _).trans hb1) _⟩

theorem u64_le {x : Int} (h : (Lit.int .u64 x).wf = true) : 0 ≤ x ∧ x ≤ 18446744073709551615 := by simpa [Lit.wf, IntKind.min, IntKind.max, IntKind.signed, IntKind.bits] using h

theorem ratios_walk (a b c : Int) (ha : 0 ≤ a ∧ a ≤ 18446744073709551615) (hb : 0 ≤ b ∧ b ≤ 18446744073709551615) (hc : 0 ≤ c ∧ c ≤ 18446744073709551615) (w : World) :
    Calls Try.prog 8 #[.int .u64 a, .int .u64 b, .int .u64 c] w (Okay w) := by
  obtain ⟨a, rfl⟩ := Int.eq_ofNat_of_zero_le ha.1
  obtain ⟨b, rfl⟩ := Int.eq_ofNat_of_zero_le hb.1
  obtain ⟨c, rfl⟩ := Int.eq_ofNat_of_zero_le hc.1
  by_cases h0 : c = 0
  · subst h0; exact ratios_nought a b (by omega) w
  · exact ratios_parts a b c (by omega) (by omega) (by omega) (by omega) w

set_option maxRecDepth 100000 in
theorem scoreRatios_lifted (os : Os) (started : os.Started) (H : Type) (enc : TypeId × Value → H) :
    ReturnsInHanded {} Try.checked os 8 .any (Rows.scoreRatiosSpec.pre6 enc Try.prog Try.f8 Rows.scoreRatiosRow.domain false) (Rows.scoreRatiosSpec.post enc Try.prog Try.f8 false true false false) := by
  refine returnsInHanded_of_change (C := Try.checked) own started (by kernel_rfl) Try.func8
    (ChangeSpec.witness6 (enc := enc) (C := Try.checked) false ⟨#[], #[.int .u64 0, .int .u64 0, .int .u64 0], []⟩ 8 (by kernel_rfl) (by kernel_rfl) (by kernel_rfl) (by kernel_rfl)) ?_
  intro W base args ds gs before hval0 hW hcnd _
  have hval : ∀ (j : Nat) t v, Try.f8.params[j]? = some t → args[j]? = some v → Value.okWide Try.prog W .any base t v := hval0
  have hpost : ∀ e W', Okay W e W' → ∃ v, e = .returned v ∧ Rows.scoreRatiosSpec.post enc Try.prog Try.f8 false true false false W args v W' := fun e W' h =>
    ⟨_, h.1, law_post laidOut (by kernel_rfl) (by kernel_rfl) Try.underlying4 rfl (fun ds hd => by
      match ds, hd with
      | [_, _, _], _ => rfl) hW h.2⟩
  obtain ⟨p, q, hA0, hV, rfl, hfz, hnd⟩ := hW
  have hA : DataW.TrodAll enc Try.prog W 0 (fun _ => true) true Try.f8.params.toList args.toList ds p := hA0
  rw [Try.params8] at hA hval
  obtain ⟨v0, vs0, d0, ds0, p0, q0, hargs, rfl, rfl, h0, r0⟩ := trodAll_cons hA
  obtain ⟨v1, vs1, d1, ds1, p1, q1, rfl, rfl, rfl, h1, r1⟩ := trodAll_cons r0
  obtain ⟨v2, vs2, d2, ds2, p2, q2, rfl, rfl, rfl, h2, r2⟩ := trodAll_cons r1
  obtain ⟨rfl, rfl, rfl⟩ := trodAll_nil r2
  obtain rfl : args = #[v0, v1, v2] := by cases args; simp_all
  obtain ⟨a0, rfl, rfl, rfl, w0⟩ := open_int Try.underlying27 (hval 0 27 v0 rfl rfl) h0
  obtain ⟨a1, rfl, rfl, rfl, w1⟩ := open_int Try.underlying27 (hval 1 27 v1 rfl rfl) h1
  obtain ⟨a2, rfl, rfl, rfl, w2⟩ := open_int Try.underlying27 (hval 2 27 v2 rfl rfl) h2
  exact (ratios_walk a0 a1 a2 (u64_le w0) (u64_le w1) (u64_le w2) W).mono hpost

theorem scoreRatios_holds : Rows.ScoreRatiosSaid :=
  OpenClaim.holds_of_wide 8 Try.f8 rfl rfl rfl rfl rfl rfl rfl ⟨rfl, rfl, rfl, rfl, rfl⟩ rfl rfl rfl rfl rfl (by kernel_rfl) Try.func8 (by kernel_rfl)
    (of_decide_eq_true (by kernel_rfl)) (by unfold Func.isWrapper; first | (rw [if_pos (by decide +kernel)]; kernel_rfl) | (rw [if_neg (by decide +kernel)]; exact ⟨rfl, rfl⟩))
    (fun os started H enc _ => scoreRatios_lifted os started H enc)
#print axioms scoreRatios_holds
end Go.Proofs.Ytcmngedjnccfaaa
