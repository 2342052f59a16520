/- ScoreAges: for every live, less, total and two ages, where less <= live <= total and total is not 0: of zones in which as much is left the elder one is worth no less, of two of an age the one in which less is left; none is worth less than 0; the chapter's examples stand: the law answers true and changes nothing. No condition. -/
import Derived.Test.YtcmngedjnccfaaaMo
import Derived.Test.YtcmngedjnccfaaaLaw
namespace Go.Proofs.Ytcmngedjnccfaaa
open Go.ChangeShapes Go.WideShapes Go.ChangeAt Go.RowKit

theorem ages_walk (a l t x y : Nat) (ha : a ≤ 65535) (hl : l ≤ 65535) (ht : t ≤ 65535) (hx : x ≤ 4294967295) (hy : y ≤ 4294967295) (w : World) :
    Calls Try.prog 7 #[.int .u16 a, .int .u16 l, .int .u16 t, .int .u32 x, .int .u32 y] w (Okay w) := by
  by_cases h : t = 0 ∨ t < a ∨ a < l
  · by_cases h0 : t = 0
    · subst h0
      go_enter Try.func7, Try.ntmps7
      go_wp2
      go_ret
      exact ⟨rfl, Below.refl _ _⟩
    · by_cases h1 : t < a
      · clear h
        go_enter Try.func7, Try.ntmps7
        go_wp2
        go_ret
        exact ⟨rfl, Below.refl _ _⟩
      · have h2 : a < l := by omega
        clear h
        go_enter Try.func7, Try.ntmps7
        go_wp2
        go_ret
        exact ⟨rfl, Below.refl _ _⟩
  · have h0 : 0 < t := by omega
    have h1 : a ≤ t := by omega
    have h2 : l ≤ a := by omega
    clear h
    have ht0 : ((t : Int) == 0) = false := by simp; omega
    have HW := Lib.hid (fun w => known_any w)
    rcases Nat.lt_trichotomy x y with hxy | rfl | hxy
    all_goals
      go_enter Try.func7, Try.ntmps7
      go_wp2_with (fail)
      refine (worth_any _ _ _ _).mono ?_
      rintro e w' ⟨r1, n1, k1, rfl, rfl⟩
      go_wp2_with (fail)
      refine (worth_any _ _ _ _).mono ?_
      rintro e w' ⟨r2, n2, k2, rfl, rfl⟩
      go_wp2_with (fail)
      refine (worth_any _ _ _ _).mono ?_
      rintro e w' ⟨r3, n3, k3, rfl, rfl⟩
      go_wp2_with (fail)
      refine (worth_any _ _ _ _).mono ?_
      rintro e w' ⟨r4, n4, k4, rfl, rfl⟩
      have f1 := worth_fits h1 (by omega) h0 (by omega) k1
      have f2 := worth_fits h1 (by omega) h0 (by omega) k2
      have f3 := worth_fits (show l ≤ t by omega) (by omega) h0 (by omega) k3
      have q1 := geq_rung f1 (worth_mono (Nat.le_refl a) h1 (by omega) h0 (by omega) (by omega) k2 k1)
      have q2 := geq_rung f3 (worth_mono h2 h1 (by omega) h0 (Nat.le_refl _) (by omega) k4 k3)
      have q3 := geq_rung f2 (Nat.zero_le r2)
      clear k1 k2 k3 k4 f1 f2 f3
      go_wp2_with (fail)
      refine (HW.out _).mono ?_
      rintro e w1 ⟨rfl, hb1⟩
      go_wp2
      go_ret
      exact ⟨rfl, (below_drewN (Below.refl _ _) _).trans hb1⟩

theorem u16_le {x : Int} (h : (Lit.int .u16 x).wf = true) : 0 ≤ x ∧ x ≤ 65535 := by simpa [Lit.wf, IntKind.min, IntKind.max, IntKind.signed, IntKind.bits] using h
theorem u32_le {x : Int} (h : (Lit.int .u32 x).wf = true) : 0 ≤ x ∧ x ≤ 4294967295 := by simpa [Lit.wf, IntKind.min, IntKind.max, IntKind.signed, IntKind.bits] using h

theorem ages_int (a l t x y : Int) (ha : 0 ≤ a ∧ a ≤ 65535) (hl : 0 ≤ l ∧ l ≤ 65535) (ht : 0 ≤ t ∧ t ≤ 65535) (hx : 0 ≤ x ∧ x ≤ 4294967295) (hy : 0 ≤ y ∧ y ≤ 4294967295) (w : World) :
    Calls Try.prog 7 #[.int .u16 a, .int .u16 l, .int .u16 t, .int .u32 x, .int .u32 y] w (Okay w) := by
  obtain ⟨a, rfl⟩ := Int.eq_ofNat_of_zero_le ha.1
  obtain ⟨l, rfl⟩ := Int.eq_ofNat_of_zero_le hl.1
  obtain ⟨t, rfl⟩ := Int.eq_ofNat_of_zero_le ht.1
  obtain ⟨x, rfl⟩ := Int.eq_ofNat_of_zero_le hx.1
  obtain ⟨y, rfl⟩ := Int.eq_ofNat_of_zero_le hy.1
  exact ages_walk a l t x y (by omega) (by omega) (by omega) (by omega) (by omega) w

set_option maxRecDepth 100000 in
theorem scoreAges_lifted (os : Os) (started : os.Started) (H : Type) (enc : TypeId × Value → H) :
    ReturnsInHanded {} Try.checked os 7 .any (Rows.scoreAgesSpec.pre6 enc Try.prog Try.f7 Rows.scoreAgesRow.domain false) (Rows.scoreAgesSpec.post enc Try.prog Try.f7 false true false false) := by
  refine returnsInHanded_of_change (C := Try.checked) own started (by kernel_rfl) Try.func7
    (ChangeSpec.witness6 (enc := enc) (C := Try.checked) false ⟨#[], #[.int .u16 0, .int .u16 0, .int .u16 0, .int .u32 0, .int .u32 0], []⟩ 8 (by kernel_rfl) (by kernel_rfl) (by kernel_rfl) (by kernel_rfl)) ?_
  intro W base args ds gs before hval0 hW hcnd _
  have hval : ∀ (j : Nat) t v, Try.f7.params[j]? = some t → args[j]? = some v → Value.okWide Try.prog W .any base t v := hval0
  have hpost : ∀ e W', Okay W e W' → ∃ v, e = .returned v ∧ Rows.scoreAgesSpec.post enc Try.prog Try.f7 false true false false W args v W' := fun e W' h =>
    ⟨_, h.1, law_post laidOut (by kernel_rfl) (by kernel_rfl) Try.underlying4 rfl (fun ds hd => by
      match ds, hd with
      | [_, _, _, _, _], _ => rfl) hW h.2⟩
  obtain ⟨p, q, hA0, hV, rfl, hfz, hnd⟩ := hW
  have hA : DataW.TrodAll enc Try.prog W 0 (fun _ => true) true Try.f7.params.toList args.toList ds p := hA0
  rw [Try.params7] at hA hval
  obtain ⟨v0, vs0, d0, ds0, p0, q0, hargs, rfl, rfl, h0, r0⟩ := trodAll_cons hA
  obtain ⟨v1, vs1, d1, ds1, p1, q1, rfl, rfl, rfl, h1, r1⟩ := trodAll_cons r0
  obtain ⟨v2, vs2, d2, ds2, p2, q2, rfl, rfl, rfl, h2, r2⟩ := trodAll_cons r1
  obtain ⟨v3, vs3, d3, ds3, p3, q3, rfl, rfl, rfl, h3, r3⟩ := trodAll_cons r2
  obtain ⟨v4, vs4, d4, ds4, p4, q4, rfl, rfl, rfl, h4, r4⟩ := trodAll_cons r3
  obtain ⟨rfl, rfl, rfl⟩ := trodAll_nil r4
  obtain rfl : args = #[v0, v1, v2, v3, v4] := by cases args; simp_all
  obtain ⟨a0, rfl, rfl, rfl, w0⟩ := open_int Try.underlying35 (hval 0 35 v0 rfl rfl) h0
  obtain ⟨a1, rfl, rfl, rfl, w1⟩ := open_int Try.underlying35 (hval 1 35 v1 rfl rfl) h1
  obtain ⟨a2, rfl, rfl, rfl, w2⟩ := open_int Try.underlying35 (hval 2 35 v2 rfl rfl) h2
  obtain ⟨a3, rfl, rfl, rfl, w3⟩ := open_int Try.underlying36 (hval 3 36 v3 rfl rfl) h3
  obtain ⟨a4, rfl, rfl, rfl, w4⟩ := open_int Try.underlying36 (hval 4 36 v4 rfl rfl) h4
  exact (ages_int a0 a1 a2 a3 a4 (u16_le w0) (u16_le w1) (u16_le w2) (u32_le w3) (u32_le w4) W).mono hpost

theorem scoreAges_holds : Rows.ScoreAgesSaid :=
  OpenClaim.holds_of_wide 7 Try.f7 rfl rfl rfl rfl rfl rfl rfl ⟨rfl, rfl, rfl, rfl, rfl⟩ rfl rfl rfl rfl rfl (by kernel_rfl) Try.func7 (by kernel_rfl)
    (of_decide_eq_true (by kernel_rfl)) (by unfold Func.isWrapper; first | (rw [if_pos (by decide +kernel)]; kernel_rfl) | (rw [if_neg (by decide +kernel)]; exact ⟨rfl, rfl⟩))
    (fun os started H enc _ => scoreAges_lifted os started H enc)
#print axioms scoreAges_holds
end Go.Proofs.Ytcmngedjnccfaaa
