/- CleanRuns: the row and its tied card: for every input the law answers true and its arguments read as before; the row lists the two tables of utf8, tied to the program's text by the given tie. -/
import Derived.Test.YtfabgbmbnmbjkaaGreatDoorCCp2
import Derived.Test.YtfabgbmbnmbjkaaGreatDoorRbo
import Derived.Test.YtfabgbmbnmbjkaaGreatDoorTie
import Derived.Test.YtfabgbmbnmbjkaaGreatDoorCards
import Derived.LaidMore
import Derived.Lay
import Derived.SevenTiedAt
namespace Go.Proofs.YtfabgbmbnmbjkaaGreatDoor
open Go.ChangeShapes Go.WideShapes Go.ChangeAt Go.RowKit
set_option maxRecDepth 100000 in
theorem cleanRuns_lifted (os : Os) (started : os.Started) (H : Type) (enc : TypeId × Value -> H) :
    ReturnsInHanded {} Tryz.checked os 9 .any (fun w args => (Rows.cleanRunsSpec.pre enc Tryz.prog Tryz.f9 [] false w args ∧ laidMetH Tryz.prog Rows.cleanRunsRow.laid w) ∧ sizedMet enc Tryz.prog Tryz.f9 (OpenSpec.ofChange Rows.cleanRunsSpec) false w args)
      (Rows.cleanRunsSpec.post enc Tryz.prog Tryz.f9 false true false false) := by
 refine returnsInHanded_of_change_and (C := Tryz.checked) (X := fun w _ => laidMetH Tryz.prog Rows.cleanRunsRow.laid w) (fun _ _ _ hh h => h.of_heap hh) own started (by kernel_rfl) Tryz.func9
   (ChangeSpec.witness_shaped (enc := enc) (C := Tryz.checked) (os := os) (X := fun w _ => laidMetH Tryz.prog Rows.cleanRunsRow.laid w) false (World.laidAll Tryz.prog os Rows.cleanRunsRow.laid) #[.agg #[.int .i64 0, .int .i64 0, .int .i64 0, .int .i64 0], .slice none 0 0] 8 (World.laidAll_os _ _ _)
     (World.shaped_of_ZipB (by kernel_rfl) (by kernel_rfl)) (by kernel_rfl) (by kernel_rfl) (by kernel_rfl)
     (by rw [MakeChecks.laidMetH_plain _ _ _ (by kernel_rfl)]; exact laidMet_laidAll _ (by kernel_rfl) (by kernel_rfl))) ?_
 intro W base args ds gs before hval0 hW _ _ _ _
 have hval : ∀ (j : Nat) t v, Tryz.f9.params[j]? = some t -> args[j]? = some v -> Value.okWide Tryz.prog W .any base t v := hval0
 have hpost : ∀ e W', Okay W e W' -> ∃ v, e = .returned v ∧ Rows.cleanRunsSpec.post enc Tryz.prog Tryz.f9 false true false false W args v W' := fun e W' h =>
  ⟨_, h.1, law_post laidOut (by kernel_rfl) (by kernel_rfl) Tryz.underlying4 rfl (fun ds hd => by
   match ds, hd with
   | [_, _], _ => rfl) hW h.2⟩
 obtain ⟨p, q, hA0, hV, rfl, hfz, hnd⟩ := hW
 have hA : DataW.TrodAll enc Tryz.prog W 0 (fun _ => true) true Tryz.f9.params.toList args.toList ds p := hA0
 rw [Tryz.params9] at hA hval
 obtain ⟨v0, vs0, d0, ds0, p0, q0, hargs, rfl, rfl, h0, r0⟩ := trodAll_cons hA
 obtain ⟨v1, vs1, d1, ds1, p1, q1, rfl, rfl, rfl, h1, r1⟩ := trodAll_cons r0
 obtain ⟨rfl, rfl, rfl⟩ := trodAll_nil r1
 obtain rfl : args = #[v0, v1] := by cases args; simp_all
 obtain ⟨z0, zb0, bl0, rs0, rfl, wz0, wb0, wr0⟩ := open_shape (hval 0 23 v0 rfl rfl) h0
 obtain ⟨A1, c1, l1, rfl, hp1, hc1, hi1⟩ := sopen_oplist (hval 1 24 v1 rfl rfl) h1
 exact (cruns_law W z0 zb0 bl0 rs0 wz0 wb0 A1 c1 l1 hc1 hp1 hi1).mono hpost
theorem cleanRuns_row : Rows.CleanRunsSaid :=
 OpenClaim.holds_of_wide 9 Tryz.f9 rfl rfl rfl rfl rfl rfl rfl ⟨rfl, rfl, rfl, rfl, rfl⟩ rfl rfl rfl rfl rfl (by kernel_rfl) Tryz.func9 (by kernel_rfl)
   (of_decide_eq_true (by kernel_rfl)) (by unfold Func.isWrapper; first | (rw [if_pos (by decide +kernel)]; kernel_rfl) | (rw [if_neg (by decide +kernel)]; exact ⟨rfl, rfl⟩))
   (fun os started H enc _ => cleanRuns_lifted os started H enc)
/-- CleanRuns: the tied card. -/
theorem cleanRuns_holds : Rows.CleanRunsCardSaid :=
 Claim7.holds_tied_plain_at .later [] _ true _ false cleanRuns_row (fun _ h => by cases h) (by kernel_rfl) (fun _ h => by cases h) cleanRuns_row_tie rfl ⟨rfl, rfl⟩ (by kernel_rfl) rfl
   (fun f fn hf hfn => by
     obtain rfl : f = 9 := Option.some.inj ((show Tryz.prog.funcNamed "coaming/coaminglaw17.CleanRuns" = some 9 by kernel_rfl).symm.trans hf) |>.symm
     obtain rfl : fn = Tryz.f9 := (Option.some.inj (Tryz.func9.symm.trans hfn)).symm
     exact ⟨by kernel_rfl, fun j t ht => by
      rw [Tryz.params9] at ht
      have hm : t ∈ [23, 24] := by simpa using Array.mem_of_getElem? ht
      have hall : ([23, 24].all fun u => !Tryz.prog.wantsStandIn u) = true := by kernel_rfl
      exact (show Tryz.prog.wantsStandIn t = false by simpa using List.all_eq_true.1 hall t hm)⟩)
   (by kernel_rfl)
#print axioms cleanRuns_holds
end Go.Proofs.YtfabgbmbnmbjkaaGreatDoor
