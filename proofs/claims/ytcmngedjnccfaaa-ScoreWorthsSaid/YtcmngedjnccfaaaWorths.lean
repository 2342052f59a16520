/- ScoreWorths: for every a, b and c the program's Ratio and Worth are the same as the reference's (or both no numbers), and the chapter's examples stand: the law answers true and changes nothing. No condition. -/
import Derived.Test.YtcmngedjnccfaaaKo
import Derived.Test.YtcmngedjnccfaaaLaw
namespace Go.Proofs.Ytcmngedjnccfaaa
open Go.ChangeShapes Go.WideShapes Go.ChangeAt Go.RowKit

theorem WorthIs.same {a b c : Int} {r r' : Nat} (h : WorthIs a b c r) (h' : WorthIs a b c r') : Sm r r' := by
  obtain ⟨u, g, m, s, hu, hg, hm, hs, hr⟩ := h
  obtain ⟨u', g', m', s', hu', hg', hm', hs', hr'⟩ := h'
  have k1 := Res.same hu hu' (.refl _) (.refl _)
  have k2 := hg.same hg' (.refl _) k1
  have k3 := hm.same hm' k2 (.refl _)
  have k4 := hs.same hs' (.refl _) k1
  exact hr.same hr' k3 k4

theorem worths_walk (a b c : Int) (w : World) : Calls Try.prog 4 #[.int .u64 a, .int .u64 b, .int .u64 c] w (Okay w) := by
  go_enter Try.func4, Try.ntmps4
  go_wp2_with (fail)
  refine (known_any _).mono ?_
  rintro e w1 ⟨rfl, hb1⟩
  go_wp2_with (fail)
  refine (ratio_any _ _ _).mono ?_
  rintro e w' ⟨r1, n1, h1, rfl, rfl⟩
  go_wp2_with (fail)
  refine (refratio_any _ _ _).mono ?_
  rintro e w' ⟨r2, n2, h2, rfl, rfl⟩
  have hs := Res.same h1 h2 (.refl _) (.refl _)
  have l1 := Res.lt h1
  have l2 := Res.lt h2
  have HS := Lib.hid (fun w => same_true r1 r2 l1 l2 hs w)
  clear h1 h2 hs l1 l2
  go_wp2_with (fail)
  refine (HS.out _).mono ?_
  rintro e w' ⟨rfl, n3, rfl⟩
  clear HS
  go_wp2_with (fail)
  refine (worth_any _ _ _ _).mono ?_
  rintro e w' ⟨r1, n1, h1, rfl, rfl⟩
  go_wp2_with (fail)
  refine (refworth_any _ _ _ _).mono ?_
  rintro e w' ⟨r2, n2, h2, rfl, rfl⟩
  have hs := h1.same h2
  have l1 := h1.lt
  have l2 := h2.lt
  have HS := Lib.hid (fun w => same_true r1 r2 l1 l2 hs w)
  clear h1 h2 hs l1 l2
  go_wp2_with (fail)
  refine (HS.out _).mono ?_
  rintro e w' ⟨rfl, n3, rfl⟩
  clear HS
  go_wp2
  go_ret
  exact ⟨rfl, below_drewN hb1 _⟩

set_option maxRecDepth 100000 in
theorem worths_lifted (os : Os) (started : os.Started) (H : Type) (enc : TypeId × Value → H) :
    ReturnsInHanded {} Try.checked os 4 .any (Rows.scoreWorthsSpec.pre6 enc Try.prog Try.f4 Rows.scoreWorthsRow.domain false) (Rows.scoreWorthsSpec.post enc Try.prog Try.f4 false true false false) := by
  refine returnsInHanded_of_change (C := Try.checked) own started (by kernel_rfl) Try.func4
    (ChangeSpec.witness6 (enc := enc) (C := Try.checked) false ⟨#[], #[.int .u64 0, .int .u64 0, .int .u64 0], []⟩ 8 (by kernel_rfl) (by kernel_rfl) (by kernel_rfl) (by kernel_rfl)) ?_
  intro W base args ds gs before hval0 hW hcnd _
  have hval : ∀ (j : Nat) t v, Try.f4.params[j]? = some t → args[j]? = some v → Value.okWide Try.prog W .any base t v := hval0
  have hpost : ∀ e W', Okay W e W' → ∃ v, e = .returned v ∧ Rows.scoreWorthsSpec.post enc Try.prog Try.f4 false true false false W args v W' := fun e W' h =>
    ⟨_, h.1, law_post laidOut (by kernel_rfl) (by kernel_rfl) Try.underlying4 rfl (fun ds hd => by
      match ds, hd with
      | [_, _, _], _ => rfl) hW h.2⟩
  obtain ⟨p, q, hA0, hV, rfl, hfz, hnd⟩ := hW
  have hA : DataW.TrodAll enc Try.prog W 0 (fun _ => true) true Try.f4.params.toList args.toList ds p := hA0
  rw [Try.params4] at hA hval
  obtain ⟨v0, vs0, d0, ds0, p0, q0, hargs, rfl, rfl, h0, r0⟩ := trodAll_cons hA
  obtain ⟨v1, vs1, d1, ds1, p1, q1, rfl, rfl, rfl, h1, r1⟩ := trodAll_cons r0
  obtain ⟨v2, vs2, d2, ds2, p2, q2, rfl, rfl, rfl, h2, r2⟩ := trodAll_cons r1
  obtain ⟨rfl, rfl, rfl⟩ := trodAll_nil r2
  obtain rfl : args = #[v0, v1, v2] := by cases args; simp_all
  obtain ⟨a0, rfl, rfl, rfl, w0⟩ := open_int Try.underlying27 (hval 0 27 v0 rfl rfl) h0
  obtain ⟨a1, rfl, rfl, rfl, w1⟩ := open_int Try.underlying27 (hval 1 27 v1 rfl rfl) h1
  obtain ⟨a2, rfl, rfl, rfl, w2⟩ := open_int Try.underlying27 (hval 2 27 v2 rfl rfl) h2
  exact (worths_walk a0 a1 a2 W).mono hpost

theorem worths_holds : Rows.ScoreWorthsSaid :=
  OpenClaim.holds_of_wide 4 Try.f4 rfl rfl rfl rfl rfl rfl rfl ⟨rfl, rfl, rfl, rfl, rfl⟩ rfl rfl rfl rfl rfl (by kernel_rfl) Try.func4 (by kernel_rfl)
    (of_decide_eq_true (by kernel_rfl)) (by unfold Func.isWrapper; first | (rw [if_pos (by decide +kernel)]; kernel_rfl) | (rw [if_neg (by decide +kernel)]; exact ⟨rfl, rfl⟩))
    (fun os started H enc _ => worths_lifted os started H enc)
#print axioms worths_holds
end Go.Proofs.Ytcmngedjnccfaaa
