/- ScoreBests: for every list of words, of at most 1000, the program's Best is the reference's, and its Mean is the same (or both are no numbers); the chapter's examples stand: the law answers true and changes nothing. No condition. -/
import Derived.Test.YtcmngedjnccfaaaBe
import Derived.Test.YtcmngedjnccfaaaLaw
import Derived.Deep.Slices
namespace Go.Proofs.Ytcmngedjnccfaaa
open Go.ChangeShapes Go.WideShapes Go.ChangeAt Go.RowKit

theorem FlAt.below {w w' : World} {A : Option Addr} {l : List Nat} (h : FlAt w A l) (hb : Below w.heap.size w w') : FlAt w' A l := by
  intro k hk
  obtain ⟨ad, e, h1, h2⟩ := h k hk
  exact ⟨ad, e, Nat.lt_of_lt_of_le h1 hb.size, (hb.cell (by rw [block_of_add]; exact h1)).trans h2⟩
theorem FlAt.drewN {w : World} {A : Option Addr} {l : List Nat} (h : FlAt w A l) (n : Nat) : FlAt (w.drewN n) A l := h

section
variable {H : Type} {enc : TypeId × Value → H} {P : Program} {w : World} {base : Nat} {spare : Nat → Bool} {held : Bool}
theorem open_floats {t e : TypeId} {b0 : Nat} {r : Reach} {v : Value} {d : DataW H} {ps : List MemPlace} (ht : P.underlying t = some (.slice e)) (he : P.underlying e = some (.float .f64)) (hc : P.cellsOf e = 1)
    (hval : Value.okWide P w r b0 t v) (h : DataW.Trod enc P w base spare held t v d ps) : ∃ A c l, v = .slice A (List.length l) c ∧ FlAt w A l ∧ l.length ≤ maxLen ∧ ∀ x ∈ l, x < 18446744073709551616 := by
  obtain ⟨A, len, cap, rfl⟩ := okWide_slice ht hval
  obtain ⟨fuel, hf⟩ := h
  rcases Deep.open_slice1 ht hc hf with ⟨hcs, _⟩ | ⟨a, len', cap', m, n, V, D, Pl, hcs, _, hl, hm, hmm, _, hx⟩
  · simp only [Value.cells, List.cons.injEq, and_true] at hcs
    injection hcs with h1 h2 h3
    subst h1 h2 h3
    exact ⟨none, 0, [], rfl, fun k hk => by simp at hk, Nat.zero_le _, fun x hx => by cases hx⟩
  · simp only [Value.cells, List.cons.injEq, and_true] at hcs
    injection hcs with h1 h2 h3
    subst h1 h2 h3
    have hlm : len ≤ m := by rw [hmm]; split <;> omega
    have hV : ∀ i, i < len → ∃ b, V i = .float .f64 b ∧ b < 18446744073709551616 := by
      intro i hi
      obtain ⟨h1, h2⟩ := hx i (by omega)
      match n, h2 with
      | 0, h2 => simp [DataW.trod] at h2
      | n + 1, h2 =>
        simp only [DataW.trod, he] at h2
        cases hv : V i <;> rw [hv] at h2 <;> simp_all
        rename_i k b
        obtain ⟨h3, h4⟩ := h2
        exact by simpa [Lit.wf] using h3.2
    refine ⟨some a, cap, (List.range len).map (fun i => match V i with | .float _ b => b | _ => 0), by simp, fun k hk => ?_, by simp; omega, fun x hxm => ?_⟩
    · simp only [List.length_map, List.length_range] at hk
      obtain ⟨b, hb, _⟩ := hV k hk
      obtain ⟨h1, _⟩ := hx k (by omega)
      refine ⟨a, rfl, ?_, ?_⟩
      · have := World.block_lt_of_cell? _ _ h1
        rw [block_of_add] at this
        exact this
      · rw [h1, hb]; simp [List.getD_eq_getElem?_getD, hk, hb]
    · simp only [List.mem_map, List.mem_range] at hxm
      obtain ⟨i, hi, rfl⟩ := hxm
      obtain ⟨b, hb, hlt⟩ := hV i hi
      rw [hb]; exact hlt
end

theorem bests_long (A : Option Addr) (c n : Nat) (hn : 1000 < n) (hm : n ≤ maxLen) (w : World) : Calls Try.prog 9 #[.slice A n c] w (Okay w) := by
  unfold maxLen at hm
  go_enter Try.func9, Try.ntmps9
  go_wp2
  go_ret
  exact ⟨rfl, Below.refl _ _⟩

theorem bests_walk (A : Option Addr) (c : Nat) (l : List Nat) (w : World) (hl : l.length ≤ maxLen) (h : FlAt w A l) : Calls Try.prog 9 #[.slice A l.length c] w (Okay w) := by
  by_cases hlong : 1000 < l.length
  · exact bests_long A c _ hlong hl w
  · clear hl
    have hl : l.length ≤ 1000 := by omega
    have H1 := Lib.hid (fun w h => best_any A c l w (by omega) h)
    have H2 := Lib.hid (fun w h => refbest_any A c l w (by omega) h)
    have H3 := Lib.hid (fun w h => mean_any A c l w (by omega) h)
    have H4 := Lib.hid (fun w h => refmean_any A c l w (by omega) h)
    have HB := best_same l
    rw [← HB] at H2
    clear HB hlong
    generalize bestV l = b at *
    have HF := Lib.hid h
    clear h
    go_enter Try.func9, Try.ntmps9
    go_wp2_with (fail)
    refine (known_any _).mono ?_
    rintro e w1 ⟨rfl, hb1⟩
    have HF1 := Lib.hid (HF.out.below hb1)
    go_wp2_with (fail)
    refine (H1.out _ HF1.out).mono ?_
    rintro e w' ⟨rfl, rfl⟩
    go_wp2_with (fail)
    refine (H2.out _ HF1.out).mono ?_
    rintro e w' ⟨rfl, n, rfl⟩
    go_wp2_with (fail)
    refine (H3.out _ (HF1.out.drewN _)).mono ?_
    rintro e w' ⟨r1, n1, h1, rfl, rfl⟩
    go_wp2_with (fail)
    refine (H4.out _ (HF1.out.drewN _)).mono ?_
    rintro e w' ⟨r2, n2, h2, rfl, rfl⟩
    have HS := Lib.hid (fun w => same_true r1 r2 h1.lt h2.lt (mean_same h1 h2 rfl) w)
    clear h1 h2 H1 H2 H3 H4
    go_wp2_with (fail)
    refine (HS.out _).mono ?_
    rintro e w' ⟨rfl, n3, rfl⟩
    go_wp2
    go_ret
    exact ⟨by simp, below_drewN hb1 _⟩

set_option maxRecDepth 100000 in
theorem scoreBests_lifted (os : Os) (started : os.Started) (H : Type) (enc : TypeId × Value → H) :
    ReturnsInHanded {} Try.checked os 9 .any (Rows.scoreBestsSpec.pre6 enc Try.prog Try.f9 Rows.scoreBestsRow.domain false) (Rows.scoreBestsSpec.post enc Try.prog Try.f9 false true false false) := by
  refine returnsInHanded_of_change (C := Try.checked) own started (by kernel_rfl) Try.func9
    (ChangeSpec.witness6 (enc := enc) (C := Try.checked) false ⟨#[], #[.slice none 0 0], []⟩ 8 (by kernel_rfl) (by kernel_rfl) (by kernel_rfl) (by kernel_rfl)) ?_
  intro W base args ds gs before hval0 hW hcnd _
  have hval : ∀ (j : Nat) t v, Try.f9.params[j]? = some t → args[j]? = some v → Value.okWide Try.prog W .any base t v := hval0
  have hpost : ∀ e W', Okay W e W' → ∃ v, e = .returned v ∧ Rows.scoreBestsSpec.post enc Try.prog Try.f9 false true false false W args v W' := fun e W' h =>
    ⟨_, h.1, law_post laidOut (by kernel_rfl) (by kernel_rfl) Try.underlying4 rfl (fun ds hd => by
      match ds, hd with
      | [_], _ => rfl) hW h.2⟩
  obtain ⟨p, q, hA0, hV, rfl, hfz, hnd⟩ := hW
  have hA : DataW.TrodAll enc Try.prog W 0 (fun _ => true) true Try.f9.params.toList args.toList ds p := hA0
  rw [Try.params9] at hA hval
  obtain ⟨v0, vs0, d0, ds0, p0, q0, hargs, rfl, rfl, h0, r0⟩ := trodAll_cons hA
  obtain ⟨rfl, rfl, rfl⟩ := trodAll_nil r0
  obtain rfl : args = #[v0] := by cases args; simp_all
  obtain ⟨A, c, l, rfl, hA2, hlen, _⟩ := open_floats Try.underlying32 Try.underlying22 (by kernel_rfl) (hval 0 32 v0 rfl rfl) h0
  exact (bests_walk A c l W hlen hA2).mono hpost

theorem scoreBests_holds : Rows.ScoreBestsSaid :=
  OpenClaim.holds_of_wide 9 Try.f9 rfl rfl rfl rfl rfl rfl rfl ⟨rfl, rfl, rfl, rfl, rfl⟩ rfl rfl rfl rfl rfl (by kernel_rfl) Try.func9 (by kernel_rfl)
    (of_decide_eq_true (by kernel_rfl)) (by unfold Func.isWrapper; first | (rw [if_pos (by decide +kernel)]; kernel_rfl) | (rw [if_neg (by decide +kernel)]; exact ⟨rfl, rfl⟩))
    (fun os started H enc _ => scoreBests_lifted os started H enc)
#print axioms scoreBests_holds
end Go.Proofs.Ytcmngedjnccfaaa
