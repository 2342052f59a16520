/- CleanKeeps: the row and its tied card: for every input the law answers true and its arguments read as before; the row lists the two tables of utf8, tied to the program's text by the given tie. -/
import Derived.Test.YtfabgbmbnmbjkaaGreatDoorCCw
import Derived.Test.YtfabgbmbnmbjkaaGreatDoorAbo
import Derived.Test.YtfabgbmbnmbjkaaGreatDoorTie
import Derived.Test.YtfabgbmbnmbjkaaGreatDoorCards
import Derived.LaidMore
import Derived.Lay
import Derived.SevenTiedAt
namespace Go.Proofs.YtfabgbmbnmbjkaaGreatDoor
open Go.ChangeShapes Go.WideShapes Go.ChangeAt Go.RowKit
set_option maxRecDepth 100000 in
theorem cleanKeeps_lifted (os : Os) (started : os.Started) (H : Type) (enc : TypeId × Value -> H) :
    ReturnsInHanded {} Tryz.checked os 4 .any (fun w args => (Rows.cleanKeepsSpec.pre enc Tryz.prog Tryz.f4 [] false w args ∧ laidMetH Tryz.prog Rows.cleanKeepsRow.laid w) ∧ sizedMet enc Tryz.prog Tryz.f4 (OpenSpec.ofChange Rows.cleanKeepsSpec) false w args)
      (Rows.cleanKeepsSpec.post enc Tryz.prog Tryz.f4 false true false false) := by
 refine returnsInHanded_of_change_and (C := Tryz.checked) (X := fun w _ => laidMetH Tryz.prog Rows.cleanKeepsRow.laid w) (fun _ _ _ hh h => h.of_heap hh) own started (by kernel_rfl) Tryz.func4
   (ChangeSpec.witness_shaped (enc := enc) (C := Tryz.checked) (os := os) (X := fun w _ => laidMetH Tryz.prog Rows.cleanKeepsRow.laid w) false (World.laidAll Tryz.prog os Rows.cleanKeepsRow.laid) #[.agg #[.int .i64 0, .int .i64 0, .int .i64 0, .int .i64 0], .slice none 0 0, .int .u8 0] 8 (World.laidAll_os _ _ _)
     (World.shaped_of_ZipB (by kernel_rfl) (by kernel_rfl)) (by kernel_rfl) (by kernel_rfl) (by kernel_rfl)
     (by rw [MakeChecks.laidMetH_plain _ _ _ (by kernel_rfl)]; exact laidMet_laidAll _ (by kernel_rfl) (by kernel_rfl))) ?_
 intro W base args ds gs before hval0 hW _ _ _ _
 have hval : ∀ (j : Nat) t v, Tryz.f4.params[j]? = some t -> args[j]? = some v -> Value.okWide Tryz.prog W .any base t v := hval0
 have hpost : ∀ e W', Okay W e W' -> ∃ v, e = .returned v ∧ Rows.cleanKeepsSpec.post enc Tryz.prog Tryz.f4 false true false false W args v W' := fun e W' h =>
  ⟨_, h.1, law_post laidOut (by kernel_rfl) (by kernel_rfl) Tryz.underlying4 rfl (fun ds hd => by
   match ds, hd with
   | [_, _, _], _ => rfl) hW h.2⟩
 obtain ⟨p, q, hA0, hV, rfl, hfz, hnd⟩ := hW
 have hA : DataW.TrodAll enc Tryz.prog W 0 (fun _ => true) true Tryz.f4.params.toList args.toList ds p := hA0
 rw [Tryz.params4] at hA hval
 obtain ⟨v0, vs0, d0, ds0, p0, q0, hargs, rfl, rfl, h0, r0⟩ := trodAll_cons hA
 obtain ⟨v1, vs1, d1, ds1, p1, q1, rfl, rfl, rfl, h1, r1⟩ := trodAll_cons r0
 obtain ⟨v2, vs2, d2, ds2, p2, q2, rfl, rfl, rfl, h2, r2⟩ := trodAll_cons r1
 obtain ⟨rfl, rfl, rfl⟩ := trodAll_nil r2
 obtain rfl : args = #[v0, v1, v2] := by cases args; simp_all
 obtain ⟨z0, zb0, bl0, rs0, rfl, wz0, wb0, wr0⟩ := open_shape (hval 0 23 v0 rfl rfl) h0
 obtain ⟨A1, c1, l1, rfl, hp1, hc1, hi1⟩ := sopen_oplist (hval 1 24 v1 rfl rfl) h1
 obtain ⟨n2, rfl, _, _, wn2⟩ := open_int Tryz.underlying5 (hval 2 5 v2 rfl rfl) h2
 exact (ckeeps_law W z0 zb0 bl0 rs0 wz0 wb0 A1 c1 l1 hc1 hp1 hi1 n2 (wfo_u8 wn2)).mono hpost
theorem cleanKeeps_row : Rows.CleanKeepsSaid :=
 OpenClaim.holds_of_wide 4 Tryz.f4 rfl rfl rfl rfl rfl rfl rfl ⟨rfl, rfl, rfl, rfl, rfl⟩ rfl rfl rfl rfl rfl (by kernel_rfl) Tryz.func4 (by kernel_rfl)
   (of_decide_eq_true (by kernel_rfl)) (by unfold Func.isWrapper; first | (rw [if_pos (by decide +kernel)]; kernel_rfl) | (rw [if_neg (by decide +kernel)]; exact ⟨rfl, rfl⟩))
   (fun os started H enc _ => cleanKeeps_lifted os started H enc)
/-- CleanKeeps: the tied card. -/
theorem cleanKeeps_holds : Rows.CleanKeepsCardSaid :=
 Claim7.holds_tied_plain_at .later [] _ true _ false cleanKeeps_row (fun _ h => by cases h) (by kernel_rfl) (fun _ h => by cases h) cleanKeeps_row_tie rfl ⟨rfl, rfl⟩ (by kernel_rfl) rfl
   (fun f fn hf hfn => by
     obtain rfl : f = 4 := Option.some.inj ((show Tryz.prog.funcNamed "coaming/coaminglaw17.CleanKeeps" = some 4 by kernel_rfl).symm.trans hf) |>.symm
     obtain rfl : fn = Tryz.f4 := (Option.some.inj (Tryz.func4.symm.trans hfn)).symm
     exact ⟨by kernel_rfl, fun j t ht => by
      rw [Tryz.params4] at ht
      have hm : t ∈ [23, 24, 5] := by simpa using Array.mem_of_getElem? ht
      have hall : ([23, 24, 5].all fun u => !Tryz.prog.wantsStandIn u) = true := by kernel_rfl
      exact (show Tryz.prog.wantsStandIn t = false by simpa using List.all_eq_true.1 hall t hm)⟩)
   (by kernel_rfl)
#print axioms cleanKeeps_holds
end Go.Proofs.YtfabgbmbnmbjkaaGreatDoor
