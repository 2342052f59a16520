/- ScoreKinds: for every two words the program's Kind and Order are the reference's, and the chapter's examples stand: the law answers true and changes nothing. No condition. -/
import Derived.Test.YtcmngedjnccfaaaKo
import Derived.Test.YtcmngedjnccfaaaLaw
namespace Go.Proofs.Ytcmngedjnccfaaa
open Go.ChangeShapes Go.WideShapes Go.ChangeAt Go.RowKit

theorem kinds_walk (a b : Nat) (ha : a < 18446744073709551616) (w : World) : Calls Try.prog 3 #[.float .f64 a, .float .f64 b] w (Okay w) := by
  have c1 := Lib.hid (fun w => kind_any a ha w)
  have c2 := Lib.hid (fun w => refkind_S a ha w)
  have c3 := Lib.hid (fun w => order_any a b w)
  have c4 := Lib.hid (fun w => reforder_any a b w)
  clear ha
  generalize kindS a = k at *
  generalize ord a b = o at *
  go_enter Try.func3, Try.ntmps3
  go_wp2_with (fail)
  refine (known_any _).mono ?_
  rintro e w1 ⟨rfl, hb1⟩
  go_wp2_with (fail)
  refine (c1.out _).mono ?_
  rintro e w' ⟨rfl, rfl⟩
  go_wp2_with (fail)
  refine (c2.out _).mono ?_
  rintro e w' ⟨rfl, n, rfl⟩
  go_wp2_with (fail)
  refine (c3.out _).mono ?_
  rintro e w' ⟨rfl, rfl⟩
  go_wp2_with (fail)
  refine (c4.out _).mono ?_
  rintro e w' ⟨rfl, rfl⟩
  clear c1 c2 c3 c4
  go_wp2
  go_ret
  exact ⟨by simp, below_drewN hb1 _⟩

theorem f64_lt {x : Nat} (h : (Lit.float .f64 x).wf = true) : x < 18446744073709551616 := by simpa [Lit.wf] using h

set_option maxRecDepth 100000 in
theorem scoreKinds_lifted (os : Os) (started : os.Started) (H : Type) (enc : TypeId × Value → H) :
    ReturnsInHanded {} Try.checked os 3 .any (Rows.scoreKindsSpec.pre6 enc Try.prog Try.f3 Rows.scoreKindsRow.domain false) (Rows.scoreKindsSpec.post enc Try.prog Try.f3 false true false false) := by
  refine returnsInHanded_of_change (C := Try.checked) own started (by kernel_rfl) Try.func3
    (ChangeSpec.witness6 (enc := enc) (C := Try.checked) false ⟨#[], #[.float .f64 0, .float .f64 0], []⟩ 8 (by kernel_rfl) (by kernel_rfl) (by kernel_rfl) (by kernel_rfl)) ?_
  intro W base args ds gs before hval0 hW hcnd _
  have hval : ∀ (j : Nat) t v, Try.f3.params[j]? = some t → args[j]? = some v → Value.okWide Try.prog W .any base t v := hval0
  have hpost : ∀ e W', Okay W e W' → ∃ v, e = .returned v ∧ Rows.scoreKindsSpec.post enc Try.prog Try.f3 false true false false W args v W' := fun e W' h =>
    ⟨_, h.1, law_post laidOut (by kernel_rfl) (by kernel_rfl) Try.underlying4 rfl (fun ds hd => by
      match ds, hd with
      | [_, _], _ => rfl) hW h.2⟩
  obtain ⟨p, q, hA0, hV, rfl, hfz, hnd⟩ := hW
  have hA : DataW.TrodAll enc Try.prog W 0 (fun _ => true) true Try.f3.params.toList args.toList ds p := hA0
  rw [Try.params3] at hA hval
  obtain ⟨v0, vs0, d0, ds0, p0, q0, hargs, rfl, rfl, h0, r0⟩ := trodAll_cons hA
  obtain ⟨v1, vs1, d1, ds1, p1, q1, rfl, rfl, rfl, h1, r1⟩ := trodAll_cons r0
  obtain ⟨rfl, rfl, rfl⟩ := trodAll_nil r1
  obtain rfl : args = #[v0, v1] := by cases args; simp_all
  obtain ⟨a0, rfl, rfl, rfl, w0⟩ := open_float Try.underlying22 (hval 0 22 v0 rfl rfl) h0
  obtain ⟨a1, rfl, rfl, rfl, w1⟩ := open_float Try.underlying22 (hval 1 22 v1 rfl rfl) h1
  exact (kinds_walk a0 a1 (f64_lt w0) W).mono hpost

theorem scoreKinds_holds : Rows.ScoreKindsSaid :=
  OpenClaim.holds_of_wide 3 Try.f3 rfl rfl rfl rfl rfl rfl rfl ⟨rfl, rfl, rfl, rfl, rfl⟩ rfl rfl rfl rfl rfl (by kernel_rfl) Try.func3 (by kernel_rfl)
    (of_decide_eq_true (by kernel_rfl)) (by unfold Func.isWrapper; first | (rw [if_pos (by decide +kernel)]; kernel_rfl) | (rw [if_neg (by decide +kernel)]; exact ⟨rfl, rfl⟩))
    (fun os started H enc _ => scoreKinds_lifted os started H enc)
#print axioms scoreKinds_holds
end Go.Proofs.Ytcmngedjnccfaaa
