/- LmapSame: the row. -/
import Derived.Test.YtcbbkemfgnbcpaaSb
namespace Go.Proofs.Ytcbbkemfgnbcpaa
open Go.ChangeShapes Go.WideShapes Go.ChangeAt Go.RowKit

set_option maxRecDepth 100000 in
theorem lmapSame_lifted (os : Os) (started : os.Started) (H : Type) (enc : TypeId × Value → H) :
    ReturnsInHanded {} Try.checked os 7 .any (Rows.lmapSameSpec.pre6 enc Try.prog Try.f7 Rows.lmapSameRow.domain false) (Rows.lmapSameSpec.post enc Try.prog Try.f7 false true false false) := by
  refine returnsInHanded_of_change (C := Try.checked) own started (by kernel_rfl) Try.func7
    (ChangeSpec.witness6 (enc := enc) (C := Try.checked) false ⟨#[], #[.slice none 0 0], []⟩ 8 (by kernel_rfl) (by kernel_rfl) (by kernel_rfl) (by kernel_rfl)) ?_
  intro W base args ds gs before hval0 hW hcnd _
  have hval : ∀ (j : Nat) t v, Try.f7.params[j]? = some t → args[j]? = some v → Value.okWide Try.prog W .any base t v := hval0
  have hpost : ∀ e W', Okay W e W' → ∃ v, e = .returned v ∧ Rows.lmapSameSpec.post enc Try.prog Try.f7 false true false false W args v W' := fun e W' h =>
    ⟨_, h.1, law_post laidOut (by kernel_rfl) (by kernel_rfl) Try.underlying4 rfl (fun ds hd => by
      match ds, hd with
      | [_], _ => rfl) hW h.2⟩
  obtain ⟨p, q, hA0, hV, rfl, hfz, hnd⟩ := hW
  have hA : DataW.TrodAll enc Try.prog W 0 (fun _ => true) true Try.f7.params.toList args.toList ds p := hA0
  rw [Try.params7] at hA hval
  obtain ⟨v0, vs0, d0, ds0, p0, q0, hargs, rfl, rfl, h0, r0⟩ := trodAll_cons hA
  obtain ⟨rfl, rfl, rfl⟩ := trodAll_nil r0
  obtain rfl : args = #[v0] := by cases args; simp_all
  obtain ⟨A0, c0, l0, rfl, R0, hlc0, hcm0, wf0⟩ := open_oplist (hval 0 22 v0 rfl rfl) h0
  exact (same_walk A0 c0 l0 W hlc0 R0 wf0).mono hpost

theorem lmapSame_holds : Rows.LmapSameSaid :=
  OpenClaim.holds_of_wide 7 Try.f7 rfl rfl rfl rfl rfl rfl rfl ⟨rfl, rfl, rfl, rfl, rfl⟩ rfl rfl rfl rfl rfl (by kernel_rfl) Try.func7 (by kernel_rfl)
    (of_decide_eq_true (by kernel_rfl)) (by unfold Func.isWrapper; first | (rw [if_pos (by decide +kernel)]; kernel_rfl) | (rw [if_neg (by decide +kernel)]; exact ⟨rfl, rfl⟩))
    (fun os started H enc _ => lmapSame_lifted os started H enc)
#print axioms lmapSame_holds
end Go.Proofs.Ytcbbkemfgnbcpaa
