/- The laws of Seg: the chapter's example. -/
import Derived.Test.YtgninjlgeibgpaaSr4
import Derived.Test.YtgninjlgeibgpaaSame
namespace Go.Proofs.Ytgninjlgeibgpaa
open Go.RowKit

theorem newL_length (z : Int) (h : 2 ≤ z) : (newL z).length = z.toNat := by simp [newL]; omega
theorem newL_frees (z : Int) (h : 2 ≤ z) : frees (newL z) = z - 2 := by
  unfold frees newL
  rw [List.countP_append, List.countP_replicate]
  simp
  omega
theorem news_ok {w : World} {g b : Nat} {z rs : Int} (h : SegIs w g b (newL z) rs (z - 2)) (hz : 6 ≤ z ∧ z ≤ 256) : SegOk w g b (newL z) rs := by
  rw [← newL_frees z (by omega)] at h
  exact ⟨h, by rw [newL_length z (by omega)]; omega⟩
theorem right_z {z zb bl rs : Int} (h : rightB z zb bl rs = true) : (6 ≤ z ∧ z ≤ 256) ∧ 2 ≤ rs := by
  have := of_decide_eq_true h
  omega

/-- What is new stays new. -/
theorem kp_below {w w1 w2 : World} {g b : Nat} (h : Below w.heap.size w w1) (k : Kp (fun x => x = g ∨ x = b) w1 w2) (hg : w.heap.size ≤ g) (hb : w.heap.size ≤ b) : Below w.heap.size w w2 :=
  Kp.below h k h.size (fun x hx => by omega)

theorem known_any (w : World) : Calls Try.prog 7 #[] w (Okay w) := by
  have HN := Lib.hid (new_any 6 8 64 2 w (by omega) (by omega))
  go_enter Try.func7, Try.ntmps7
  go_wp2_with (fail)
  refine HN.out.mono ?_
  rintro e w1 ⟨h1, _, hb1⟩
  obtain ⟨g, b, rfl, hg, hb, his⟩ := h1 (by decide)
  clear h1
  have H0 := Lib.hid (take_any g b (newL 6) 2 w1 (news_ok his (by omega)))
  have HB1 := Lib.hid hb1
  clear his hb1
  go_wp2_with (fail)
  refine H0.out.mono ?_
  rintro e w2 ⟨h1, _, hk2⟩
  obtain ⟨rfl, hs2⟩ := h1 (by decide)
  have HB2 := Lib.hid (kp_below HB1.out hk2 hg hb)
  have H1 := Lib.hid (take_any g b _ 2 w2 hs2)
  rw [show placeI 1 (newL 6) 0 = 2 by decide]
  rw [show turnL (newL 6) (placeI 1 (newL 6) 0) 2 = [4, 4, 2, 1, 1, 1] by decide] at H1
  clear h1 hs2 hk2
  go_wp2_with (fail)
  refine H1.out.mono ?_
  rintro e w3 ⟨h1, _, hk3⟩
  obtain ⟨rfl, hs3⟩ := h1 (by decide)
  have HB3 := Lib.hid (kp_below HB2.out hk3 hg hb)
  rw [show placeI 1 [4, 4, 2, 1, 1, 1] 0 = 3 by decide] at hs3 ⊢
  rw [show turnL [4, 4, 2, 1, 1, 1] 3 2 = [4, 4, 2, 2, 1, 1] by decide] at hs3
  have HS3 := Lib.hid hs3
  have H2 := Lib.hid (list_any g b _ 2 _ 1 w3 hs3.2 hs3.1)
  clear h1 hs3 hk3
  go_wp2_with (fail)
  refine H2.out.mono ?_
  rintro e w4 ⟨A, c, rfl, hrd, hb4, hA⟩
  rw [show listTo [4, 4, 2, 2, 1, 1] 1 ([4, 4, 2, 2, 1, 1] : List Int).length = [4, 5] by decide] at hrd ⊢
  obtain ⟨ad, rfl, hadb, hca⟩ := hrd.num (i := 0) (by decide)
  have HB4 : Hid (Below w.heap.size w w4) := HB3.out.trans (hb4.mono HB3.out.size)
  have hs4 : SegOk w4 g b [4, 4, 2, 2, 1, 1] 2 := ⟨HS3.out.1.below hb4, HS3.out.2⟩
  have HL := Lib.hid (low_any g b _ 2 w4 hs4)
  have HS4 := Lib.hid hs4
  have hg4 := HS3.out.1.top.lt
  have hb4' := HS3.out.1.row.lt
  have hadw := hA ad rfl
  clear hs4 hrd hb4 hA
  go_wp2_with (fail)
  refine HL.out.mono ?_
  rintro e w5 ⟨rfl, n5, rfl⟩
  have HF := Lib.hid (fill_any g b _ 2 2 _ (show SegOk (w4.drewN n5) g b _ 2 from ⟨HS4.out.1.drewN n5, HS4.out.2⟩))
  have he : decide (frees [4, 4, 2, 2, 1, 1] ≤ 2) = true := by decide
  rw [he]
  go_wp2_with (fail)
  refine HF.out.mono ?_
  rintro e w6 ⟨h1, _, hk6⟩
  obtain ⟨rfl, hs6⟩ := h1 (by decide)
  rw [show turnL [4, 4, 2, 2, 1, 1] 2 3 = [4, 4, 3, 2, 1, 1] by decide] at hs6
  have HC := Lib.hid (clear_any g b _ 2 2 _ hs6)
  have HK6 := Lib.hid hk6
  clear h1 hs6 hk6
  go_wp2_with (fail)
  refine HC.out.mono ?_
  rintro e w7 ⟨h1, _, hk7⟩
  obtain ⟨rfl, hs7⟩ := h1 (by decide)
  rw [show turnL [4, 4, 3, 2, 1, 1] 2 1 = [4, 4, 1, 2, 1, 1] by decide] at hs7
  have hc7 : w7.cell? ad = some (.int .i64 4) := by
    have hca' : w4.cell? ad = some (.int .i64 4) := hca
    have hne : ¬ (ad.block = g ∨ ad.block = b) := by omega
    exact hk7.cell (HK6.out.cell hca' hne) hne
  have HL2 := Lib.hid (low_any g b _ 2 w7 hs7)
  have HK7 := Lib.hid hk7
  clear h1 hs7 hk7 he
  have he : decide (frees [4, 4, 1, 2, 1, 1] ≤ 2) = false := by decide
  rw [he] at HL2
  go_wp2_with (fail)
  refine HL2.out.mono ?_
  rintro e w8 ⟨rfl, n8, rfl⟩
  go_wp2
  go_ret
  exact ⟨rfl, below_drewN (kp_below (kp_below (below_drewN HB4.out n5) HK6.out hg hb) HK7.out hg hb) n8⟩
end Go.Proofs.Ytgninjlgeibgpaa
