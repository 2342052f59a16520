/- ScoreTotal: for every three words the program's Order turns about, is 0 at itself, is transitive, and equal ones stand alike to all others; the chapter's examples stand: the law answers true and changes nothing. No condition. -/
import Derived.Test.YtcmngedjnccfaaaKo
import Derived.Test.YtcmngedjnccfaaaLaw
namespace Go.Proofs.Ytcmngedjnccfaaa
open Go.ChangeShapes Go.WideShapes Go.ChangeAt Go.RowKit

theorem total_calls (a b c : Nat) (x x' y z : Int) (hx : ord a b = x) (hx' : ord b a = x') (hy : ord b c = y) (hz : ord a c = z) (ha : ord a a = 0)
    (t1 : x' = -x) (b1 : -1 ≤ x ∧ x ≤ 1) (t2 : x ≤ 0 → y ≤ 0 → z ≤ 0) (t3 : x = 0 → y = z) (w : World) :
    Calls Try.prog 5 #[.float .f64 a, .float .f64 b, .float .f64 c] w (Okay w) := by
  have c1 : ∀ w, Calls Try.prog 14 #[.float .f64 a, .float .f64 b] w fun e w' => e = .returned (.int .i64 x) ∧ w = w' := hx ▸ order_any a b
  have c2 : ∀ w, Calls Try.prog 14 #[.float .f64 b, .float .f64 c] w fun e w' => e = .returned (.int .i64 y) ∧ w = w' := hy ▸ order_any b c
  have c3 : ∀ w, Calls Try.prog 14 #[.float .f64 a, .float .f64 c] w fun e w' => e = .returned (.int .i64 z) ∧ w = w' := hz ▸ order_any a c
  have c4 : ∀ w, Calls Try.prog 14 #[.float .f64 b, .float .f64 a] w fun e w' => e = .returned (.int .i64 x') ∧ w = w' := hx' ▸ order_any b a
  have c5 : ∀ w, Calls Try.prog 14 #[.float .f64 a, .float .f64 a] w fun e w' => e = .returned (.int .i64 0) ∧ w = w' := ha ▸ order_any a a
  have c1 := Lib.hid c1
  have c2 := Lib.hid c2
  have c3 := Lib.hid c3
  have c4 := Lib.hid c4
  have c5 := Lib.hid c5
  clear hx hx' hy hz ha
  subst t1
  have T2 := Lib.hid t2
  have T3 := Lib.hid t3
  clear t2 t3
  go_enter Try.func5, Try.ntmps5
  go_wp2_with (fail)
  refine (c1.out _).mono ?_
  rintro e w1 ⟨rfl, rfl⟩
  go_wp2_with (fail)
  refine (c2.out _).mono ?_
  rintro e w1 ⟨rfl, rfl⟩
  go_wp2_with (fail)
  refine (c3.out _).mono ?_
  rintro e w1 ⟨rfl, rfl⟩
  go_wp2_with (fail)
  refine (c4.out _).mono ?_
  rintro e w1 ⟨rfl, rfl⟩
  go_wp2_with (fail)
  refine (c5.out _).mono ?_
  rintro e w1 ⟨rfl, rfl⟩
  clear c1 c2 c3 c4 c5
  by_cases hx0 : x ≤ 0
  · by_cases hxe : x = 0
    · subst hxe
      have hyz := T3.out rfl
      subst hyz
      clear T2 T3
      by_cases hy0 : y ≤ 0
      all_goals
        go_wp2_with (fail)
        refine (known_any _).mono ?_
        rintro e w1 ⟨rfl, hb1⟩
        go_wp2
        go_ret
        exact ⟨by simp, hb1⟩
    · by_cases hy0 : y ≤ 0
      · have hz0 := T2.out hx0 hy0
        clear T2 T3
        go_wp2_with (fail)
        refine (known_any _).mono ?_
        rintro e w1 ⟨rfl, hb1⟩
        go_wp2
        go_ret
        exact ⟨by simp, hb1⟩
      · clear T2 T3
        go_wp2_with (fail)
        refine (known_any _).mono ?_
        rintro e w1 ⟨rfl, hb1⟩
        go_wp2
        go_ret
        exact ⟨by simp, hb1⟩
  · clear T2 T3
    go_wp2_with (fail)
    refine (known_any _).mono ?_
    rintro e w1 ⟨rfl, hb1⟩
    go_wp2
    go_ret
    exact ⟨by simp, hb1⟩

theorem total_walk (a b c : Nat) (w : World) : Calls Try.prog 5 #[.float .f64 a, .float .f64 b, .float .f64 c] w (Okay w) := by
  refine total_calls a b c _ _ _ _ rfl rfl rfl rfl ?_ ?_ ?_ ?_ ?_ w
  · rw [ord_rank, if_neg (by omega), if_neg (by omega)]
  · rw [ord_rank, ord_rank]; (repeat' split) <;> omega
  · rw [ord_rank]; (repeat' split) <;> omega
  · rw [ord_rank, ord_rank, ord_rank]; (repeat' split) <;> omega
  · rw [ord_rank, ord_rank, ord_rank]; (repeat' split) <;> omega

set_option maxRecDepth 100000 in
theorem scoreTotal_lifted (os : Os) (started : os.Started) (H : Type) (enc : TypeId × Value → H) :
    ReturnsInHanded {} Try.checked os 5 .any (Rows.scoreTotalSpec.pre6 enc Try.prog Try.f5 Rows.scoreTotalRow.domain false) (Rows.scoreTotalSpec.post enc Try.prog Try.f5 false true false false) := by
  refine returnsInHanded_of_change (C := Try.checked) own started (by kernel_rfl) Try.func5
    (ChangeSpec.witness6 (enc := enc) (C := Try.checked) false ⟨#[], #[.float .f64 0, .float .f64 0, .float .f64 0], []⟩ 8 (by kernel_rfl) (by kernel_rfl) (by kernel_rfl) (by kernel_rfl)) ?_
  intro W base args ds gs before hval0 hW hcnd _
  have hval : ∀ (j : Nat) t v, Try.f5.params[j]? = some t → args[j]? = some v → Value.okWide Try.prog W .any base t v := hval0
  have hpost : ∀ e W', Okay W e W' → ∃ v, e = .returned v ∧ Rows.scoreTotalSpec.post enc Try.prog Try.f5 false true false false W args v W' := fun e W' h =>
    ⟨_, h.1, law_post laidOut (by kernel_rfl) (by kernel_rfl) Try.underlying4 rfl (fun ds hd => by
      match ds, hd with
      | [_, _, _], _ => rfl) hW h.2⟩
  obtain ⟨p, q, hA0, hV, rfl, hfz, hnd⟩ := hW
  have hA : DataW.TrodAll enc Try.prog W 0 (fun _ => true) true Try.f5.params.toList args.toList ds p := hA0
  rw [Try.params5] at hA hval
  obtain ⟨v0, vs0, d0, ds0, p0, q0, hargs, rfl, rfl, h0, r0⟩ := trodAll_cons hA
  obtain ⟨v1, vs1, d1, ds1, p1, q1, rfl, rfl, rfl, h1, r1⟩ := trodAll_cons r0
  obtain ⟨v2, vs2, d2, ds2, p2, q2, rfl, rfl, rfl, h2, r2⟩ := trodAll_cons r1
  obtain ⟨rfl, rfl, rfl⟩ := trodAll_nil r2
  obtain rfl : args = #[v0, v1, v2] := by cases args; simp_all
  obtain ⟨a0, rfl, rfl, rfl, w0⟩ := open_float Try.underlying22 (hval 0 22 v0 rfl rfl) h0
  obtain ⟨a1, rfl, rfl, rfl, w1⟩ := open_float Try.underlying22 (hval 1 22 v1 rfl rfl) h1
  obtain ⟨a2, rfl, rfl, rfl, w2⟩ := open_float Try.underlying22 (hval 2 22 v2 rfl rfl) h2
  exact (total_walk a0 a1 a2 W).mono hpost

theorem scoreTotal_holds : Rows.ScoreTotalSaid :=
  OpenClaim.holds_of_wide 5 Try.f5 rfl rfl rfl rfl rfl rfl rfl ⟨rfl, rfl, rfl, rfl, rfl⟩ rfl rfl rfl rfl rfl (by kernel_rfl) Try.func5 (by kernel_rfl)
    (of_decide_eq_true (by kernel_rfl)) (by unfold Func.isWrapper; first | (rw [if_pos (by decide +kernel)]; kernel_rfl) | (rw [if_neg (by decide +kernel)]; exact ⟨rfl, rfl⟩))
    (fun os started H enc _ => scoreTotal_lifted os started H enc)
#print axioms scoreTotal_holds
end Go.Proofs.Ytcmngedjnccfaaa
