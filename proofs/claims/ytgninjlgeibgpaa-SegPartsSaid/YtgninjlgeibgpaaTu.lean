/- SegTurns. -/
import Derived.Test.YtgninjlgeibgpaaKn2
import Derived.Test.YtgninjlgeibgpaaLaw
import Derived.Deep.Cut
namespace Go.Proofs.Ytgninjlgeibgpaa
open Go.RowKit

theorem stateAt_nat (l : List Int) (k : Nat) (h : k < l.length) : stateAt l k = l.getD k 0 := by
  unfold stateAt
  rw [if_pos (by omega), Int.toNat_natCast]
theorem stateAt_set (l : List Int) (k : Nat) (c : Int) (h : k < l.length) : stateAt (turnL l k c) k = c := by
  unfold turnL
  rw [stateAt_nat _ _ (by simpa using h)]
  simp [List.getD_eq_getElem?_getD, h]
theorem stateAt_out (l : List Int) (z : Int) (h : z < 0 ∨ l.length ≤ z) : stateAt l z = 0 := by
  unfold stateAt
  rw [if_neg (by omega)]

/-- Zones opened from the front. -/
def openL (n k : Nat) : List Int := [4, 4] ++ (List.replicate k 2 ++ List.replicate (n - 2 - k) 1)
theorem openL_length (n k : Nat) (h : k + 2 ≤ n) : (openL n k).length = n := by simp [openL]; omega
theorem openL_zero (n : Nat) : openL n 0 = newL n := by simp [openL, newL]
theorem openL_one (n k : Nat) (h : k + 2 < n) : (openL n k).getD (k + 2) 0 = 1 := by
  unfold openL
  rw [List.getD_eq_getElem?_getD, List.getElem?_append_right (by simp), List.getElem?_append_right (by simp)]
  simp [List.getElem?_replicate]
  rw [if_pos (by omega)]; rfl
theorem openL_done (n k j : Nat) (h1 : 2 ≤ j) (h2 : j < k + 2) : (openL n k).getD j 0 = 2 := by
  unfold openL
  rw [List.getD_eq_getElem?_getD, List.getElem?_append_right (by simpa using h1), List.getElem?_append_left (by simp; omega)]
  simp [List.getElem?_replicate]
  rw [if_pos (by omega)]; rfl
theorem openL_low (n k j : Nat) (h1 : j < 2) : (openL n k).getD j 0 = 4 := by
  match j, h1 with
  | 0, _ => rfl
  | 1, _ => rfl
theorem openL_set (n k : Nat) (h : k + 2 < n) : turnL (openL n k) (k + 2 : Nat) 2 = openL n (k + 1) := by
  unfold openL turnL
  rw [Int.toNat_natCast, List.set_append_right _ _ (by simp), List.set_append_right _ _ (by simp)]
  obtain ⟨m, hm⟩ : ∃ m, n - 2 - k = m + 1 := ⟨n - 2 - k - 1, by omega⟩
  rw [hm, show n - 2 - (k + 1) = m by omega]
  rw [List.replicate_succ' (n := k), List.replicate_succ (n := m)]
  simp only [List.length_cons, List.length_nil, List.length_replicate, List.append_assoc, List.cons_append, List.nil_append]
  rw [show k + 2 - (0 + 1 + 1) - k = 0 by omega, List.set_cons_zero]
theorem openL_place (n k : Nat) (h : k + 2 < n) : placeI 1 (openL n k) 0 = (k + 2 : Nat) := by
  refine placeI_here 1 _ (k + 2) (by rw [openL_length n k (by omega)]; exact h) (openL_one n k h) (fun j hj => ?_)
  by_cases h2 : j < 2
  · rw [openL_low n k j h2]; decide
  · rw [openL_done n k j (by omega) hj]; decide
theorem newL_at (n j : Nat) (h1 : 2 ≤ j) (h2 : j < n) : (newL n).getD j 0 = 1 := by
  rw [← openL_zero]
  unfold openL
  rw [List.getD_eq_getElem?_getD, List.getElem?_append_right (by simpa using h1)]
  simp [List.getElem?_replicate]
  rw [if_pos (by omega)]; rfl
theorem newL_back (n j : Nat) (h1 : 2 ≤ j) (h2 : j < n) : turnL (turnL (newL n) j 3) j 1 = newL n := by
  have hl : (newL n).length = n := by rw [newL_length _ (by omega)]; simp
  have hg := newL_at n j h1 h2
  generalize newL n = l at *
  unfold turnL
  rw [Int.toNat_natCast, List.set_set]
  apply List.ext_getElem?
  intro i
  by_cases hi : i = j
  · subst hi
    rw [List.getElem?_set_self (by omega)]
    rw [List.getD_eq_getElem?_getD, List.getElem?_eq_getElem (by omega)] at hg
    rw [List.getElem?_eq_getElem (by omega)]
    simpa using hg.symm
  · rw [List.getElem?_set_ne (by omega)]

/-- A zone that takes no part. -/
theorem newL_still (n : Nat) (hn : 6 ≤ n) (x : Int) (h : x < 2 ∨ (n : Int) ≤ x) : stateAt (newL n) x ≠ 1 ∧ stateAt (newL n) x ≠ 2 ∧ stateAt (newL n) x ≠ 3 := by
  have hl : (newL n).length = n := by rw [newL_length _ (by omega)]; simp
  by_cases h2 : 0 ≤ x ∧ x < 2
  · obtain ⟨k, rfl⟩ := Int.eq_ofNat_of_zero_le h2.1
    rw [stateAt_nat _ _ (by omega), ← openL_zero, openL_low _ _ _ (by omega)]
    decide
  · rw [stateAt_out _ _ (by omega)]
    decide

theorem turns_walk (z zb bl rs x : Int) (w : World) (hz : -9223372036854775808 ≤ z ∧ z ≤ 9223372036854775807) (hb : -9223372036854775808 ≤ bl ∧ bl ≤ 9223372036854775807) (hx : -9223372036854775808 ≤ x ∧ x ≤ 9223372036854775807) :
    Calls Try.prog 5 #[.agg #[.int .i64 z, .int .i64 zb, .int .i64 bl, .int .i64 rs], .int .i64 x] w (Okay w) := by
  have hB := Lib.hid (Blk.new w 23 #[.int .i64 z, .int .i64 zb, .int .i64 bl, .int .i64 rs])
  have hW : Hid (Below (w.alloc (.cells #[.int .i64 z, .int .i64 zb, .int .i64 bl, .int .i64 rs] 23)).heap.size (w.alloc (.cells #[.int .i64 z, .int .i64 zb, .int .i64 bl, .int .i64 rs] 23)) (w.alloc (.cells #[.int .i64 z, .int .i64 zb, .int .i64 bl, .int .i64 rs] 23))) := Below.refl _ _
  have hOut : Hid (∀ w', Below (w.alloc (.cells #[.int .i64 z, .int .i64 zb, .int .i64 bl, .int .i64 rs] 23)).heap.size (w.alloc (.cells #[.int .i64 z, .int .i64 zb, .int .i64 bl, .int .i64 rs] 23)) w' → Below w.heap.size w w') := fun w' h => ((Below.refl _ _).alloc (Nat.le_refl _) _).trans (h.mono (by simp))
  have hsz : Hid (w.heap.size < (w.alloc (.cells #[.int .i64 z, .int .i64 zb, .int .i64 bl, .int .i64 rs] 23)).heap.size) := by unfold Hid; simp
  have hc0 : (w.alloc (.cells #[.int .i64 z, .int .i64 zb, .int .i64 bl, .int .i64 rs] 23)).cell? ⟨w.heap.size, 0, none⟩ = some (.int .i64 z) := hB.out.cell 0
  go_enter Try.func5, Try.ntmps5
  go_upto_region 1 with (fail)
  generalize hW1 : w.alloc (.cells #[.int .i64 z, .int .i64 zb, .int .i64 bl, .int .i64 rs] 23) = W1 at *
  clear hW1
  by_cases h300 : z > 300
  · go_wp2_with (fail)
    refine (known_is hW.out).mono ?_
    rintro e w1 ⟨rfl, hb1⟩
    go_wp2
    go_ret
    exact ⟨rfl, hOut.out _ hb1⟩
  · go_wp2_with (fail)
    refine (known_is hW.out).mono ?_
    rintro e w1 ⟨rfl, hb1⟩
    have hB1 := hB.out.below hb1 hsz.out
    have hc0 : w1.cell? ⟨w.heap.size, 0, none⟩ = some (.int .i64 z) := hB1.cell 0
    have hc1 : w1.cell? ⟨w.heap.size, 1, none⟩ = some (.int .i64 zb) := hB1.cell 1
    have hc2 : w1.cell? ⟨w.heap.size, 2, none⟩ = some (.int .i64 bl) := hB1.cell 2
    have hc3 : w1.cell? ⟨w.heap.size, 3, none⟩ = some (.int .i64 rs) := hB1.cell 3
    have HB1 := Lib.hid hb1
    clear hB1 hb1
    cases hr : rightB z zb bl rs with
    | false =>
      have HF := Lib.hid hr
      have HZ := Lib.hid hz
      have HBb := Lib.hid hb
      clear hr hz hb
      go_wp2_with (fail)
      refine (new_no HZ.out HBb.out HB1.out HF.out).mono ?_
      rintro e w2 ⟨rfl, hb2⟩
      go_wp2
      go_ret
      exact ⟨rfl, hOut.out _ hb2⟩
    | true =>
      have HT := Lib.hid hr
      have hz2 := (right_z hr).1
      clear hr hz hb h300
      obtain ⟨n, rfl⟩ := Int.eq_ofNat_of_zero_le (show 0 ≤ z by omega)
      go_wp2_with (fail)
      refine (new_yes HB1.out HT.out).mono ?_
      rintro e w2 ⟨g, b, rfl, hst⟩
      have hB2 := hB.out.below hst.bl hsz.out
      have hc0 : w2.cell? ⟨w.heap.size, 0, none⟩ = some (.int .i64 n) := hB2.cell 0
      clear hB2 hc1 hc2 hc3
      by_cases hin : x < 2 ∨ (n : Int) ≤ x
      · have HS := Lib.hid (newL_still n (by omega) x hin)
        rcases Classical.em (x < 2) with hlow | hlow
        · clear hin
          go_wp2_with (fail)
          refine (fill_no hst HS.out.2.1).mono ?_
          rintro e w3 ⟨rfl, hst⟩
          go_wp2_with (fail)
          refine (clear_no hst HS.out.2.2).mono ?_
          rintro e w4 ⟨rfl, hst⟩
          go_wp2_with (fail)
          refine (found_no hst HS.out.1).mono ?_
          rintro e w5 ⟨rfl, hst⟩
          go_wp2
          go_ret
          exact ⟨rfl, hOut.out _ hst.bl⟩
        · have hge : (n : Int) ≤ x := by omega
          clear hin
          go_wp2_with (fail)
          refine (fill_no hst HS.out.2.1).mono ?_
          rintro e w3 ⟨rfl, hst⟩
          go_wp2_with (fail)
          refine (clear_no hst HS.out.2.2).mono ?_
          rintro e w4 ⟨rfl, hst⟩
          go_wp2_with (fail)
          refine (found_no hst HS.out.1).mono ?_
          rintro e w5 ⟨rfl, hst⟩
          go_wp2
          go_ret
          exact ⟨rfl, hOut.out _ hst.bl⟩
      · obtain ⟨j, rfl⟩ := Int.eq_ofNat_of_zero_le (show 0 ≤ x by omega)
        have hj : 2 ≤ j := by omega
        have hjn : j < n := by omega
        clear hin
        have HL : Hid ((newL n).length = n) := by unfold Hid; rw [newL_length _ (by omega)]; simp
        have HS : Hid (stateAt (newL n) j = 1) := by unfold Hid; rw [stateAt_nat _ _ (by rw [HL.out]; exact hjn)]; exact newL_at n j hj hjn
        have HS1 : Hid (stateAt (turnL (newL n) j 3) j = 3) := stateAt_set _ _ _ (by rw [HL.out]; exact hjn)
        have HBK := Lib.hid (newL_back n j hj hjn)
        have HD := Lib.hid (fun k (h2 : k + 2 ≤ n) (h : j < k + 2) => (stateAt_nat (openL n k) j (by rw [openL_length n k h2]; exact hjn)).trans (openL_done n k j hj h))
        have HP := Lib.hid (openL_place n)
        have HPS := Lib.hid (openL_set n)
        have HF3 := Lib.hid (fun k (h2 : k + 2 ≤ n) => stateAt_set (openL n k) j 3 (by rw [openL_length n k h2]; exact hjn))
        go_wp2_with (fail)
        refine (fill_no hst (by rw [HS.out]; decide)).mono ?_
        rintro e w3 ⟨rfl, hst⟩
        go_wp2_with (fail)
        refine (clear_no hst (by rw [HS.out]; decide)).mono ?_
        rintro e w4 ⟨rfl, hst⟩
        go_wp2_with (fail)
        refine (found_yes hst HS.out).mono ?_
        rintro e w5 ⟨rfl, hst⟩
        go_wp2_with (fail)
        refine (found_no hst (by rw [HS1.out]; decide)).mono ?_
        rintro e w6 ⟨rfl, hst⟩
        go_wp2_with (fail)
        refine (fill_no hst (by rw [HS1.out]; decide)).mono ?_
        rintro e w7 ⟨rfl, hst⟩
        go_wp2_with (fail)
        refine (clear_yes hst HS1.out).mono ?_
        rintro e w8 ⟨rfl, hst⟩
        rw [HBK.out, ← openL_zero] at hst
        go_wp2_with (fail)
        go_loopw [12] (fun i wr => ∃ k : Nat, k + 1 ≤ j ∧ i = .int .i64 (k + 2 : Nat) ∧ St W1 wr g b (openL n k) rs) (fun i _ => j + 1 - (intOf i).toNat)
        case atStart => exact ⟨0, by omega, rfl, hst⟩
        case round =>
          obtain ⟨k, hk, rfl, hst⟩ := hrel
          by_cases hlt : k + 2 ≤ j
          · go_wp2_with (fail)
            refine (take_yes hst (HP.out k (by omega))).mono ?_
            rintro e w9 ⟨rfl, hst⟩
            rw [HPS.out k (by omega)] at hst
            go_wp2
            go_roundw
            case rel => exact ⟨k + 1, by omega, by go_num, hst⟩
            case measure => simp [intOf]; omega
          · have hkj : j < k + 2 := by omega
            go_wp2_with (fail)
            refine (state_is hst (HD.out k (by omega) (by omega))).mono ?_
            rintro e w9 ⟨rfl, rfl⟩
            go_wp2_with (fail)
            refine (clear_no hst (by rw [HD.out k (by omega) (by omega)]; decide)).mono ?_
            rintro e w10 ⟨rfl, hst⟩
            go_wp2_with (fail)
            refine (found_no hst (by rw [HD.out k (by omega) (by omega)]; decide)).mono ?_
            rintro e w11 ⟨rfl, hst⟩
            go_wp2_with (fail)
            refine (fill_yes hst (HD.out k (by omega) (by omega))).mono ?_
            rintro e w12 ⟨rfl, hst⟩
            go_wp2_with (fail)
            refine (state_is hst (HF3.out k (by omega))).mono ?_
            rintro e w13 ⟨rfl, rfl⟩
            go_wp2
            go_ret
            exact ⟨rfl, hOut.out _ hst.bl⟩
end Go.Proofs.Ytgninjlgeibgpaa
