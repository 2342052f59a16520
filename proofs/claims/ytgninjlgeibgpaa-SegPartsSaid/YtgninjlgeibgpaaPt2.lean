/- SegParts: the walk. -/
import Derived.Test.YtgninjlgeibgpaaPt
import Derived.Test.YtgninjlgeibgpaaOpen
set_option linter.unusedVariables false
namespace Go.Proofs.Ytgninjlgeibgpaa
open Go.RowKit

theorem kinds4 {y : Int} (h : 0 ≤ y ∧ y ≤ 255) : y.tmod 4 = 0 ∨ y.tmod 4 = 1 ∨ y.tmod 4 = 2 ∨ y.tmod 4 = 3 := by
  rw [Int.tmod_eq_emod_of_nonneg h.1]
  omega

theorem add_field (ad : Addr) (k : Nat) : ad.add (k * 2 + 1) = ⟨(ad.add (k * 2)).block, (ad.add (k * 2)).off + 1, none⟩ := by
  by_cases h : k * 2 = 0
  · simp [Addr.add, h]
  · simp [Addr.add, h]; omega


set_option maxHeartbeats 8000000 in
set_option maxRecDepth 20000 in
theorem parts_walk (z zb bl rs : Int) (A : Option Addr) (c : Nat) (xs : List (Int × Int)) (w : World) (hz : -9223372036854775808 ≤ z ∧ z ≤ 9223372036854775807) (hb : -9223372036854775808 ≤ bl ∧ bl ≤ 9223372036854775807)
    (hxl : xs.length ≤ c) (hcm : c ≤ maxLen) (hR : PairsAt w w.heap.size A .u8 .i64 xs) (hK : ∀ i, i < xs.length → 0 ≤ (xs.getD i (0, 0)).1 ∧ (xs.getD i (0, 0)).1 ≤ 255) :
    Calls Try.prog 4 #[.agg #[.int .i64 z, .int .i64 zb, .int .i64 bl, .int .i64 rs], .slice A xs.length c] w (Okay w) := by
  have HR := Lib.hid (hR.below ((Below.refl w.heap.size w).alloc (Nat.le_refl _) (.cells #[.int .i64 z, .int .i64 zb, .int .i64 bl, .int .i64 rs] 23)))
  have HK := Lib.hid hK
  clear hR hK
  unfold maxLen at hcm
  have hB := Lib.hid (Blk.new w 23 #[.int .i64 z, .int .i64 zb, .int .i64 bl, .int .i64 rs])
  have hW : Hid (Below (w.alloc (.cells #[.int .i64 z, .int .i64 zb, .int .i64 bl, .int .i64 rs] 23)).heap.size (w.alloc (.cells #[.int .i64 z, .int .i64 zb, .int .i64 bl, .int .i64 rs] 23)) (w.alloc (.cells #[.int .i64 z, .int .i64 zb, .int .i64 bl, .int .i64 rs] 23))) := Below.refl _ _
  have hOut : Hid (∀ w', Below (w.alloc (.cells #[.int .i64 z, .int .i64 zb, .int .i64 bl, .int .i64 rs] 23)).heap.size (w.alloc (.cells #[.int .i64 z, .int .i64 zb, .int .i64 bl, .int .i64 rs] 23)) w' → Below w.heap.size w w') := fun w' h => ((Below.refl _ _).alloc (Nat.le_refl _) _).trans (h.mono (by simp))
  have hsz : Hid (w.heap.size < (w.alloc (.cells #[.int .i64 z, .int .i64 zb, .int .i64 bl, .int .i64 rs] 23)).heap.size) := by unfold Hid; simp
  have hc0 : (w.alloc (.cells #[.int .i64 z, .int .i64 zb, .int .i64 bl, .int .i64 rs] 23)).cell? ⟨w.heap.size, 0, none⟩ = some (.int .i64 z) := hB.out.cell 0
  go_enter Try.func4, Try.ntmps4
  go_upto_region 1 with (fail)
  generalize hW1 : w.alloc (.cells #[.int .i64 z, .int .i64 zb, .int .i64 bl, .int .i64 rs] 23) = W1 at *
  clear hW1
  by_cases h300 : z > 300
  · go_wp2_with (fail)
    refine (known_is hW.out).mono ?_
    rintro e w1 ⟨rfl, hb1⟩
    go_wp2
    go_ret
    exact ⟨rfl, hOut.out _ hb1⟩
  · by_cases hlong : 400 < xs.length
    · go_wp2_with (fail)
      refine (known_is hW.out).mono ?_
      rintro e w1 ⟨rfl, hb1⟩
      go_wp2
      go_ret
      exact ⟨rfl, hOut.out _ hb1⟩
    · go_wp2_with (fail)
      refine (known_is hW.out).mono ?_
      rintro e w1 ⟨rfl, hb1⟩
      have hB1 := hB.out.below hb1 hsz.out
      have hc0 : w1.cell? ⟨w.heap.size, 0, none⟩ = some (.int .i64 z) := hB1.cell 0
      have hc1 : w1.cell? ⟨w.heap.size, 1, none⟩ = some (.int .i64 zb) := hB1.cell 1
      have hc2 : w1.cell? ⟨w.heap.size, 2, none⟩ = some (.int .i64 bl) := hB1.cell 2
      have hc3 : w1.cell? ⟨w.heap.size, 3, none⟩ = some (.int .i64 rs) := hB1.cell 3
      have HB1 := Lib.hid hb1
      clear hB1 hb1
      cases hr : rightB z zb bl rs with
      | false =>
        have HF := Lib.hid hr
        have HZ := Lib.hid hz
        have HBb := Lib.hid hb
        clear hr hz hb
        go_wp2_with (fail)
        refine (new_no HZ.out HBb.out HB1.out HF.out).mono ?_
        rintro e w2 ⟨rfl, hb2⟩
        go_wp2
        go_ret
        exact ⟨rfl, hOut.out _ hb2⟩
      | true =>
        have HT := Lib.hid hr
        have hz2 := (right_z hr).1
        clear hr hz hb h300
        obtain ⟨n, rfl⟩ := Int.eq_ofNat_of_zero_le (show 0 ≤ z by omega)
        go_wp2_with (fail)
        refine (new_yes HB1.out HT.out).mono ?_
        rintro e w2 ⟨g, b, rfl, hst⟩
        have HST := Lib.hid hst
        clear hst hc0 hc1 hc2 hc3
        have hn6 : 6 ≤ n := by omega
        have HGD := Lib.hid (newL_good n hn6)
        go_wp2_with (fail)
        go_loopw [6] (fun i wr => ∃ (k : Nat) (l : List Int), k ≤ xs.length ∧ i = .int .i64 k ∧ Hid (St W1 wr g b l rs) ∧ Hid (Good l n)) (fun i _ => xs.length - (intOf i).toNat)
        case atStart => exact ⟨0, newL n, Nat.zero_le _, rfl, HST.out, HGD.out⟩
        case round =>
          obtain ⟨k, l, hk, rfl, hst, hg⟩ := hrel
          clear HST HGD
          by_cases hlt : k < xs.length
          · obtain ⟨ad, hA, had, hp0, hp1⟩ := HR.out k hlt
            have hq0 : wr.cell? (ad.add (k * 2)) = some (.int .u8 (xs.getD k (0, 0)).1) := (hst.out.bl.cell (by rw [block_of_add]; have := hsz.out; omega)).trans hp0
            have hq1 : wr.cell? (ad.add (k * 2 + 1)) = some (.int .i64 (xs.getD k (0, 0)).2) := (hst.out.bl.cell (by rw [block_of_add]; have := hsz.out; omega)).trans hp1
            have hy := HK.out k hlt
            rw [add_field] at hq1
            subst hA
            clear hp0 hp1
            generalize (xs.getD k (0, 0)).1 = y at *
            generalize (xs.getD k (0, 0)).2 = x at *
            rcases kinds4 hy with hm | hm | hm | hm
            · rcases good_take hg.out hn6 with ⟨hp, hx⟩ | ⟨p, r, hp, hx, hG, hS⟩
              · have HP := Lib.hid hp
                have HX := Lib.hid hx
                clear hp hx
                go_wp2_with (fail)
                refine (list_is hst.out HX.out).mono ?_
                rintro e w3 ⟨A3, c3, rfl, h3, _⟩
                have H3 := Lib.hid h3
                clear h3
                go_wp2_with (fail)
                refine (take_no H3.out HP.out).mono ?_
                rintro e w4 ⟨rfl, h4⟩
                have HST := Lib.hid h4
                have HG := hg
                clear h4 H3 hst hg
                have HSL : Hid (∀ j, sumTo (l) j ≤ j * n) := fun j => by have := sumTo_le (l) j; rw [HG.out.1.1] at this; exact this
                have HLW := Lib.hid (HG.out.low hn6)
                have HSM := Lib.hid HG.out.sum
                go_wp2_with (fail)
                go_loopw [10, 11] (fun s t wr => ∃ j : Nat, j ≤ 4 ∧ s = .int .i64 (sumTo (l) j) ∧ t = .int .u8 (j + 1 : Nat) ∧ Hid (St W1 wr g b (l) rs)) (fun _ t _ => 5 - (intOf t).toNat)
                case atStart => exact ⟨0, by omega, rfl, rfl, HST⟩
                case round =>
                  obtain ⟨j, hj, rfl, rfl, hst5⟩ := hrel
                  clear HST
                  have hsj := HSL.out j
                  by_cases hj4 : j < 4
                  · have hsn := sumTo_succ (l) j
                    have HSN := Lib.hid hsn
                    have hcl : cnt ((j : Int) + 1) (l) ≤ n := by have := cnt_le ((j : Int) + 1) (l); rw [HG.out.1.1] at this; exact this
                    have HCE : Hid (cnt (((j + 1 : Nat) : Int)) (l) = cnt ((j : Int) + 1) (l)) := by unfold Hid; rw [show ((j + 1 : Nat) : Int) = (j : Int) + 1 by omega]
                    clear hsn
                    generalize cnt ((j : Int) + 1) (l) = m at *
                    have hsb : sumTo (l) j ≤ 1024 := by
                      have : j * n ≤ 4 * 256 := Nat.mul_le_mul (by omega) (by omega)
                      omega
                    clear hsj
                    generalize hsv : sumTo (l) j = sv at *
                    clear hsv
                    go_wp2_with (fail)
                    refine (list_len hst5.out HCE.out).mono ?_
                    rintro e w6 ⟨A6, c6, rfl, hst6⟩
                    have HST6 := Lib.hid hst6
                    clear hst6
                    go_wp2
                    go_roundw
                    case rel => exact ⟨j + 1, by omega, by rw [HSN.out]; go_num, by go_num, HST6⟩
                    case measure => simp [intOf]; omega
                  · have hj5 : j = 4 := by omega
                    subst hj5
                    rw [HSM.out]
                    have hB5 := hB.out.below hst5.out.bl hsz.out
                    have hc0 : wr.cell? ⟨w.heap.size, 0, none⟩ = some (.int .i64 n) := hB5.cell 0
                    have hc3 : wr.cell? ⟨w.heap.size, 3, none⟩ = some (.int .i64 rs) := hB5.cell 3
                    clear hB5 hsj
                    obtain ⟨m, hm⟩ : ∃ m, cnt 1 (l) = m := ⟨_, rfl⟩
                    have HM := Lib.hid hm
                    have HFR : Hid (frees (l) = m) := by unfold Hid; rw [frees_cnt, hm]
                    clear hm
                    have HST := Lib.hid hst5.out
                    clear hst5 hq0 hq1 hy hm
                    by_cases hle : (m : Int) ≤ rs
                    · have HLO : Hid (decide (frees (l) ≤ rs) = true) := by unfold Hid; rw [HFR.out]; exact decide_eq_true hle
                      go_wp2_with (fail)
                      go_region_held3 (fun w' => w'.cell? ⟨w.heap.size, 0, none⟩ = some (.int .i64 n) ∧ w'.cell? ⟨w.heap.size, 3, none⟩ = some (.int .i64 rs)) (go_keep)
                        (first
                          | (go_at_call 18; (first | with_reducible refine (state_st (s := 4) HST.out (by first | with_reducible exact HLW.out.1 | with_reducible exact HLW.out.2)).mono ?_ | refine (state_st (s := 4) (HST.out.drewN _) (by first | with_reducible exact HLW.out.1 | with_reducible exact HLW.out.2)).mono ?_); (rintro e w6 ⟨rfl, hst6⟩; have k0 : w6.cell? ⟨w.heap.size, 0, none⟩ = some (.int .i64 n) := (hB.out.below hst6.bl hsz.out).cell 0; have k3 : w6.cell? ⟨w.heap.size, 3, none⟩ = some (.int .i64 rs) := (hB.out.below hst6.bl hsz.out).cell 3; have HST := Lib.hid hst6; clear hst6))
                          | (go_at_call 20; (first | with_reducible refine (low_is HST.out HLO.out).mono ?_ | refine (low_is (HST.out.drewN _) HLO.out).mono ?_); (rintro e w6 ⟨rfl, hst6⟩; have k0 : w6.cell? ⟨w.heap.size, 0, none⟩ = some (.int .i64 n) := (hB.out.below hst6.bl hsz.out).cell 0; have k3 : w6.cell? ⟨w.heap.size, 3, none⟩ = some (.int .i64 rs) := (hB.out.below hst6.bl hsz.out).cell 3; have HST := Lib.hid hst6; clear hst6))
                          | (go_at_call 23; (first | with_reducible refine (list_len HST.out HM.out).mono ?_ | refine (list_len (HST.out.drewN _) HM.out).mono ?_); (rintro e w6 ⟨A6, c6, rfl, hst6⟩; have k0 : w6.cell? ⟨w.heap.size, 0, none⟩ = some (.int .i64 n) := (hB.out.below hst6.bl hsz.out).cell 0; have k3 : w6.cell? ⟨w.heap.size, 3, none⟩ = some (.int .i64 rs) := (hB.out.below hst6.bl hsz.out).cell 3; have HST := Lib.hid hst6; clear hst6)))
                      go_wp2
                      go_roundw
                      case rel => exact ⟨k + 1, _, by omega, by go_num, HST, HG⟩
                      case measure => simp [intOf]; omega
                    · have HLO : Hid (decide (frees (l) ≤ rs) = false) := by unfold Hid; rw [HFR.out]; exact decide_eq_false hle
                      go_wp2_with (fail)
                      go_region_held3 (fun w' => w'.cell? ⟨w.heap.size, 0, none⟩ = some (.int .i64 n) ∧ w'.cell? ⟨w.heap.size, 3, none⟩ = some (.int .i64 rs)) (go_keep)
                        (first
                          | (go_at_call 18; (first | with_reducible refine (state_st (s := 4) HST.out (by first | with_reducible exact HLW.out.1 | with_reducible exact HLW.out.2)).mono ?_ | refine (state_st (s := 4) (HST.out.drewN _) (by first | with_reducible exact HLW.out.1 | with_reducible exact HLW.out.2)).mono ?_); (rintro e w6 ⟨rfl, hst6⟩; have k0 : w6.cell? ⟨w.heap.size, 0, none⟩ = some (.int .i64 n) := (hB.out.below hst6.bl hsz.out).cell 0; have k3 : w6.cell? ⟨w.heap.size, 3, none⟩ = some (.int .i64 rs) := (hB.out.below hst6.bl hsz.out).cell 3; have HST := Lib.hid hst6; clear hst6))
                          | (go_at_call 20; (first | with_reducible refine (low_is HST.out HLO.out).mono ?_ | refine (low_is (HST.out.drewN _) HLO.out).mono ?_); (rintro e w6 ⟨rfl, hst6⟩; have k0 : w6.cell? ⟨w.heap.size, 0, none⟩ = some (.int .i64 n) := (hB.out.below hst6.bl hsz.out).cell 0; have k3 : w6.cell? ⟨w.heap.size, 3, none⟩ = some (.int .i64 rs) := (hB.out.below hst6.bl hsz.out).cell 3; have HST := Lib.hid hst6; clear hst6))
                          | (go_at_call 23; (first | with_reducible refine (list_len HST.out HM.out).mono ?_ | refine (list_len (HST.out.drewN _) HM.out).mono ?_); (rintro e w6 ⟨A6, c6, rfl, hst6⟩; have k0 : w6.cell? ⟨w.heap.size, 0, none⟩ = some (.int .i64 n) := (hB.out.below hst6.bl hsz.out).cell 0; have k3 : w6.cell? ⟨w.heap.size, 3, none⟩ = some (.int .i64 rs) := (hB.out.below hst6.bl hsz.out).cell 3; have HST := Lib.hid hst6; clear hst6)))
                      go_wp2
                      go_roundw
                      case rel => exact ⟨k + 1, _, by omega, by go_num, HST, HG⟩
                      case measure => simp [intOf]; omega
              · have HP := Lib.hid hp
                have HX := Lib.hid hx
                have HG := Lib.hid hG
                have HS := Lib.hid hS
                clear hp hx hG hS
                go_wp2_with (fail)
                refine (list_is hst.out HX.out).mono ?_
                rintro e w3 ⟨A3, c3, rfl, h3, hrd⟩
                obtain ⟨ad3, hA3, _, hcell⟩ := hrd.out.1.num (i := 0) (by simp)
                have hnew := hrd.out.2.2 ad3 hA3
                subst hA3
                have H3 := Lib.hid h3
                have hold := hst.out.ok.1.top.lt
                have hold2 := hst.out.ok.1.row.lt
                clear h3 hrd
                go_wp2_with (fail)
                refine (take_kp H3.out HP.out).mono ?_
                rintro e w4 ⟨rfl, h4, hkp⟩
                have hcell4 : w4.cell? ad3 = some (.int .i64 p) := hkp.out.cell (by simpa [Addr.add] using hcell) (by omega)
                have HST := Lib.hid h4
                clear h4 H3 hst hg hcell hkp
                go_wp2_with (fail)
                refine (state_st HST.out HS.out).mono ?_
                rintro e w5 ⟨rfl, h5⟩
                have HST := Lib.hid h5
                clear h5 hcell4
                have HSL : Hid (∀ j, sumTo (turnL l p 2) j ≤ j * n) := fun j => by have := sumTo_le (turnL l p 2) j; rw [HG.out.1.1] at this; exact this
                have HLW := Lib.hid (HG.out.low hn6)
                have HSM := Lib.hid HG.out.sum
                go_wp2_with (fail)
                go_loopw [10, 11] (fun s t wr => ∃ j : Nat, j ≤ 4 ∧ s = .int .i64 (sumTo (turnL l p 2) j) ∧ t = .int .u8 (j + 1 : Nat) ∧ Hid (St W1 wr g b (turnL l p 2) rs)) (fun _ t _ => 5 - (intOf t).toNat)
                case atStart => exact ⟨0, by omega, rfl, rfl, HST⟩
                case round =>
                  obtain ⟨j, hj, rfl, rfl, hst5⟩ := hrel
                  clear HST
                  have hsj := HSL.out j
                  by_cases hj4 : j < 4
                  · have hsn := sumTo_succ (turnL l p 2) j
                    have HSN := Lib.hid hsn
                    have hcl : cnt ((j : Int) + 1) (turnL l p 2) ≤ n := by have := cnt_le ((j : Int) + 1) (turnL l p 2); rw [HG.out.1.1] at this; exact this
                    have HCE : Hid (cnt (((j + 1 : Nat) : Int)) (turnL l p 2) = cnt ((j : Int) + 1) (turnL l p 2)) := by unfold Hid; rw [show ((j + 1 : Nat) : Int) = (j : Int) + 1 by omega]
                    clear hsn
                    generalize cnt ((j : Int) + 1) (turnL l p 2) = m at *
                    have hsb : sumTo (turnL l p 2) j ≤ 1024 := by
                      have : j * n ≤ 4 * 256 := Nat.mul_le_mul (by omega) (by omega)
                      omega
                    clear hsj
                    generalize hsv : sumTo (turnL l p 2) j = sv at *
                    clear hsv
                    go_wp2_with (fail)
                    refine (list_len hst5.out HCE.out).mono ?_
                    rintro e w6 ⟨A6, c6, rfl, hst6⟩
                    have HST6 := Lib.hid hst6
                    clear hst6
                    go_wp2
                    go_roundw
                    case rel => exact ⟨j + 1, by omega, by rw [HSN.out]; go_num, by go_num, HST6⟩
                    case measure => simp [intOf]; omega
                  · have hj5 : j = 4 := by omega
                    subst hj5
                    rw [HSM.out]
                    have hB5 := hB.out.below hst5.out.bl hsz.out
                    have hc0 : wr.cell? ⟨w.heap.size, 0, none⟩ = some (.int .i64 n) := hB5.cell 0
                    have hc3 : wr.cell? ⟨w.heap.size, 3, none⟩ = some (.int .i64 rs) := hB5.cell 3
                    clear hB5 hsj
                    obtain ⟨m, hm⟩ : ∃ m, cnt 1 (turnL l p 2) = m := ⟨_, rfl⟩
                    have HM := Lib.hid hm
                    have HFR : Hid (frees (turnL l p 2) = m) := by unfold Hid; rw [frees_cnt, hm]
                    clear hm
                    have HST := Lib.hid hst5.out
                    clear hst5 hq0 hq1 hy hm
                    by_cases hle : (m : Int) ≤ rs
                    · have HLO : Hid (decide (frees (turnL l p 2) ≤ rs) = true) := by unfold Hid; rw [HFR.out]; exact decide_eq_true hle
                      go_wp2_with (fail)
                      go_region_held3 (fun w' => w'.cell? ⟨w.heap.size, 0, none⟩ = some (.int .i64 n) ∧ w'.cell? ⟨w.heap.size, 3, none⟩ = some (.int .i64 rs)) (go_keep)
                        (first
                          | (go_at_call 18; (first | with_reducible refine (state_st (s := 4) HST.out (by first | with_reducible exact HLW.out.1 | with_reducible exact HLW.out.2)).mono ?_ | refine (state_st (s := 4) (HST.out.drewN _) (by first | with_reducible exact HLW.out.1 | with_reducible exact HLW.out.2)).mono ?_); (rintro e w6 ⟨rfl, hst6⟩; have k0 : w6.cell? ⟨w.heap.size, 0, none⟩ = some (.int .i64 n) := (hB.out.below hst6.bl hsz.out).cell 0; have k3 : w6.cell? ⟨w.heap.size, 3, none⟩ = some (.int .i64 rs) := (hB.out.below hst6.bl hsz.out).cell 3; have HST := Lib.hid hst6; clear hst6))
                          | (go_at_call 20; (first | with_reducible refine (low_is HST.out HLO.out).mono ?_ | refine (low_is (HST.out.drewN _) HLO.out).mono ?_); (rintro e w6 ⟨rfl, hst6⟩; have k0 : w6.cell? ⟨w.heap.size, 0, none⟩ = some (.int .i64 n) := (hB.out.below hst6.bl hsz.out).cell 0; have k3 : w6.cell? ⟨w.heap.size, 3, none⟩ = some (.int .i64 rs) := (hB.out.below hst6.bl hsz.out).cell 3; have HST := Lib.hid hst6; clear hst6))
                          | (go_at_call 23; (first | with_reducible refine (list_len HST.out HM.out).mono ?_ | refine (list_len (HST.out.drewN _) HM.out).mono ?_); (rintro e w6 ⟨A6, c6, rfl, hst6⟩; have k0 : w6.cell? ⟨w.heap.size, 0, none⟩ = some (.int .i64 n) := (hB.out.below hst6.bl hsz.out).cell 0; have k3 : w6.cell? ⟨w.heap.size, 3, none⟩ = some (.int .i64 rs) := (hB.out.below hst6.bl hsz.out).cell 3; have HST := Lib.hid hst6; clear hst6)))
                      go_wp2
                      go_roundw
                      case rel => exact ⟨k + 1, _, by omega, by go_num, HST, HG⟩
                      case measure => simp [intOf]; omega
                    · have HLO : Hid (decide (frees (turnL l p 2) ≤ rs) = false) := by unfold Hid; rw [HFR.out]; exact decide_eq_false hle
                      go_wp2_with (fail)
                      go_region_held3 (fun w' => w'.cell? ⟨w.heap.size, 0, none⟩ = some (.int .i64 n) ∧ w'.cell? ⟨w.heap.size, 3, none⟩ = some (.int .i64 rs)) (go_keep)
                        (first
                          | (go_at_call 18; (first | with_reducible refine (state_st (s := 4) HST.out (by first | with_reducible exact HLW.out.1 | with_reducible exact HLW.out.2)).mono ?_ | refine (state_st (s := 4) (HST.out.drewN _) (by first | with_reducible exact HLW.out.1 | with_reducible exact HLW.out.2)).mono ?_); (rintro e w6 ⟨rfl, hst6⟩; have k0 : w6.cell? ⟨w.heap.size, 0, none⟩ = some (.int .i64 n) := (hB.out.below hst6.bl hsz.out).cell 0; have k3 : w6.cell? ⟨w.heap.size, 3, none⟩ = some (.int .i64 rs) := (hB.out.below hst6.bl hsz.out).cell 3; have HST := Lib.hid hst6; clear hst6))
                          | (go_at_call 20; (first | with_reducible refine (low_is HST.out HLO.out).mono ?_ | refine (low_is (HST.out.drewN _) HLO.out).mono ?_); (rintro e w6 ⟨rfl, hst6⟩; have k0 : w6.cell? ⟨w.heap.size, 0, none⟩ = some (.int .i64 n) := (hB.out.below hst6.bl hsz.out).cell 0; have k3 : w6.cell? ⟨w.heap.size, 3, none⟩ = some (.int .i64 rs) := (hB.out.below hst6.bl hsz.out).cell 3; have HST := Lib.hid hst6; clear hst6))
                          | (go_at_call 23; (first | with_reducible refine (list_len HST.out HM.out).mono ?_ | refine (list_len (HST.out.drewN _) HM.out).mono ?_); (rintro e w6 ⟨A6, c6, rfl, hst6⟩; have k0 : w6.cell? ⟨w.heap.size, 0, none⟩ = some (.int .i64 n) := (hB.out.below hst6.bl hsz.out).cell 0; have k3 : w6.cell? ⟨w.heap.size, 3, none⟩ = some (.int .i64 rs) := (hB.out.below hst6.bl hsz.out).cell 3; have HST := Lib.hid hst6; clear hst6)))
                      go_wp2
                      go_roundw
                      case rel => exact ⟨k + 1, _, by omega, by go_num, HST, HG⟩
                      case measure => simp [intOf]; omega
            · go_wp2_with (fail)
              refine (fill_st hst.out x).mono ?_
              rintro e w3 ⟨rfl, h3⟩
              have HST := Lib.hid h3
              have HG := Lib.hid (hg.out.step hn6 x (a := 2) (c := 3) (by decide) (by decide))
              clear h3 hst hg
              have HSL : Hid (∀ j, sumTo (stepL l x 2 3) j ≤ j * n) := fun j => by have := sumTo_le (stepL l x 2 3) j; rw [HG.out.1.1] at this; exact this
              have HLW := Lib.hid (HG.out.low hn6)
              have HSM := Lib.hid HG.out.sum
              go_wp2_with (fail)
              go_loopw [10, 11] (fun s t wr => ∃ j : Nat, j ≤ 4 ∧ s = .int .i64 (sumTo (stepL l x 2 3) j) ∧ t = .int .u8 (j + 1 : Nat) ∧ Hid (St W1 wr g b (stepL l x 2 3) rs)) (fun _ t _ => 5 - (intOf t).toNat)
              case atStart => exact ⟨0, by omega, rfl, rfl, HST⟩
              case round =>
                obtain ⟨j, hj, rfl, rfl, hst5⟩ := hrel
                clear HST
                have hsj := HSL.out j
                by_cases hj4 : j < 4
                · have hsn := sumTo_succ (stepL l x 2 3) j
                  have HSN := Lib.hid hsn
                  have hcl : cnt ((j : Int) + 1) (stepL l x 2 3) ≤ n := by have := cnt_le ((j : Int) + 1) (stepL l x 2 3); rw [HG.out.1.1] at this; exact this
                  have HCE : Hid (cnt (((j + 1 : Nat) : Int)) (stepL l x 2 3) = cnt ((j : Int) + 1) (stepL l x 2 3)) := by unfold Hid; rw [show ((j + 1 : Nat) : Int) = (j : Int) + 1 by omega]
                  clear hsn
                  generalize cnt ((j : Int) + 1) (stepL l x 2 3) = m at *
                  have hsb : sumTo (stepL l x 2 3) j ≤ 1024 := by
                    have : j * n ≤ 4 * 256 := Nat.mul_le_mul (by omega) (by omega)
                    omega
                  clear hsj
                  generalize hsv : sumTo (stepL l x 2 3) j = sv at *
                  clear hsv
                  go_wp2_with (fail)
                  refine (list_len hst5.out HCE.out).mono ?_
                  rintro e w6 ⟨A6, c6, rfl, hst6⟩
                  have HST6 := Lib.hid hst6
                  clear hst6
                  go_wp2
                  go_roundw
                  case rel => exact ⟨j + 1, by omega, by rw [HSN.out]; go_num, by go_num, HST6⟩
                  case measure => simp [intOf]; omega
                · have hj5 : j = 4 := by omega
                  subst hj5
                  rw [HSM.out]
                  have hB5 := hB.out.below hst5.out.bl hsz.out
                  have hc0 : wr.cell? ⟨w.heap.size, 0, none⟩ = some (.int .i64 n) := hB5.cell 0
                  have hc3 : wr.cell? ⟨w.heap.size, 3, none⟩ = some (.int .i64 rs) := hB5.cell 3
                  clear hB5 hsj
                  obtain ⟨m, hm⟩ : ∃ m, cnt 1 (stepL l x 2 3) = m := ⟨_, rfl⟩
                  have HM := Lib.hid hm
                  have HFR : Hid (frees (stepL l x 2 3) = m) := by unfold Hid; rw [frees_cnt, hm]
                  clear hm
                  have HST := Lib.hid hst5.out
                  clear hst5 hq0 hq1 hy hm
                  by_cases hle : (m : Int) ≤ rs
                  · have HLO : Hid (decide (frees (stepL l x 2 3) ≤ rs) = true) := by unfold Hid; rw [HFR.out]; exact decide_eq_true hle
                    go_wp2_with (fail)
                    go_region_held3 (fun w' => w'.cell? ⟨w.heap.size, 0, none⟩ = some (.int .i64 n) ∧ w'.cell? ⟨w.heap.size, 3, none⟩ = some (.int .i64 rs)) (go_keep)
                      (first
                        | (go_at_call 18; (first | with_reducible refine (state_st (s := 4) HST.out (by first | with_reducible exact HLW.out.1 | with_reducible exact HLW.out.2)).mono ?_ | refine (state_st (s := 4) (HST.out.drewN _) (by first | with_reducible exact HLW.out.1 | with_reducible exact HLW.out.2)).mono ?_); (rintro e w6 ⟨rfl, hst6⟩; have k0 : w6.cell? ⟨w.heap.size, 0, none⟩ = some (.int .i64 n) := (hB.out.below hst6.bl hsz.out).cell 0; have k3 : w6.cell? ⟨w.heap.size, 3, none⟩ = some (.int .i64 rs) := (hB.out.below hst6.bl hsz.out).cell 3; have HST := Lib.hid hst6; clear hst6))
                        | (go_at_call 20; (first | with_reducible refine (low_is HST.out HLO.out).mono ?_ | refine (low_is (HST.out.drewN _) HLO.out).mono ?_); (rintro e w6 ⟨rfl, hst6⟩; have k0 : w6.cell? ⟨w.heap.size, 0, none⟩ = some (.int .i64 n) := (hB.out.below hst6.bl hsz.out).cell 0; have k3 : w6.cell? ⟨w.heap.size, 3, none⟩ = some (.int .i64 rs) := (hB.out.below hst6.bl hsz.out).cell 3; have HST := Lib.hid hst6; clear hst6))
                        | (go_at_call 23; (first | with_reducible refine (list_len HST.out HM.out).mono ?_ | refine (list_len (HST.out.drewN _) HM.out).mono ?_); (rintro e w6 ⟨A6, c6, rfl, hst6⟩; have k0 : w6.cell? ⟨w.heap.size, 0, none⟩ = some (.int .i64 n) := (hB.out.below hst6.bl hsz.out).cell 0; have k3 : w6.cell? ⟨w.heap.size, 3, none⟩ = some (.int .i64 rs) := (hB.out.below hst6.bl hsz.out).cell 3; have HST := Lib.hid hst6; clear hst6)))
                    go_wp2
                    go_roundw
                    case rel => exact ⟨k + 1, _, by omega, by go_num, HST, HG⟩
                    case measure => simp [intOf]; omega
                  · have HLO : Hid (decide (frees (stepL l x 2 3) ≤ rs) = false) := by unfold Hid; rw [HFR.out]; exact decide_eq_false hle
                    go_wp2_with (fail)
                    go_region_held3 (fun w' => w'.cell? ⟨w.heap.size, 0, none⟩ = some (.int .i64 n) ∧ w'.cell? ⟨w.heap.size, 3, none⟩ = some (.int .i64 rs)) (go_keep)
                      (first
                        | (go_at_call 18; (first | with_reducible refine (state_st (s := 4) HST.out (by first | with_reducible exact HLW.out.1 | with_reducible exact HLW.out.2)).mono ?_ | refine (state_st (s := 4) (HST.out.drewN _) (by first | with_reducible exact HLW.out.1 | with_reducible exact HLW.out.2)).mono ?_); (rintro e w6 ⟨rfl, hst6⟩; have k0 : w6.cell? ⟨w.heap.size, 0, none⟩ = some (.int .i64 n) := (hB.out.below hst6.bl hsz.out).cell 0; have k3 : w6.cell? ⟨w.heap.size, 3, none⟩ = some (.int .i64 rs) := (hB.out.below hst6.bl hsz.out).cell 3; have HST := Lib.hid hst6; clear hst6))
                        | (go_at_call 20; (first | with_reducible refine (low_is HST.out HLO.out).mono ?_ | refine (low_is (HST.out.drewN _) HLO.out).mono ?_); (rintro e w6 ⟨rfl, hst6⟩; have k0 : w6.cell? ⟨w.heap.size, 0, none⟩ = some (.int .i64 n) := (hB.out.below hst6.bl hsz.out).cell 0; have k3 : w6.cell? ⟨w.heap.size, 3, none⟩ = some (.int .i64 rs) := (hB.out.below hst6.bl hsz.out).cell 3; have HST := Lib.hid hst6; clear hst6))
                        | (go_at_call 23; (first | with_reducible refine (list_len HST.out HM.out).mono ?_ | refine (list_len (HST.out.drewN _) HM.out).mono ?_); (rintro e w6 ⟨A6, c6, rfl, hst6⟩; have k0 : w6.cell? ⟨w.heap.size, 0, none⟩ = some (.int .i64 n) := (hB.out.below hst6.bl hsz.out).cell 0; have k3 : w6.cell? ⟨w.heap.size, 3, none⟩ = some (.int .i64 rs) := (hB.out.below hst6.bl hsz.out).cell 3; have HST := Lib.hid hst6; clear hst6)))
                    go_wp2
                    go_roundw
                    case rel => exact ⟨k + 1, _, by omega, by go_num, HST, HG⟩
                    case measure => simp [intOf]; omega
            · go_wp2_with (fail)
              refine (clear_st hst.out x).mono ?_
              rintro e w3 ⟨rfl, h3⟩
              have HST := Lib.hid h3
              have HG := Lib.hid (hg.out.step hn6 x (a := 3) (c := 1) (by decide) (by decide))
              clear h3 hst hg
              have HSL : Hid (∀ j, sumTo (stepL l x 3 1) j ≤ j * n) := fun j => by have := sumTo_le (stepL l x 3 1) j; rw [HG.out.1.1] at this; exact this
              have HLW := Lib.hid (HG.out.low hn6)
              have HSM := Lib.hid HG.out.sum
              go_wp2_with (fail)
              go_loopw [10, 11] (fun s t wr => ∃ j : Nat, j ≤ 4 ∧ s = .int .i64 (sumTo (stepL l x 3 1) j) ∧ t = .int .u8 (j + 1 : Nat) ∧ Hid (St W1 wr g b (stepL l x 3 1) rs)) (fun _ t _ => 5 - (intOf t).toNat)
              case atStart => exact ⟨0, by omega, rfl, rfl, HST⟩
              case round =>
                obtain ⟨j, hj, rfl, rfl, hst5⟩ := hrel
                clear HST
                have hsj := HSL.out j
                by_cases hj4 : j < 4
                · have hsn := sumTo_succ (stepL l x 3 1) j
                  have HSN := Lib.hid hsn
                  have hcl : cnt ((j : Int) + 1) (stepL l x 3 1) ≤ n := by have := cnt_le ((j : Int) + 1) (stepL l x 3 1); rw [HG.out.1.1] at this; exact this
                  have HCE : Hid (cnt (((j + 1 : Nat) : Int)) (stepL l x 3 1) = cnt ((j : Int) + 1) (stepL l x 3 1)) := by unfold Hid; rw [show ((j + 1 : Nat) : Int) = (j : Int) + 1 by omega]
                  clear hsn
                  generalize cnt ((j : Int) + 1) (stepL l x 3 1) = m at *
                  have hsb : sumTo (stepL l x 3 1) j ≤ 1024 := by
                    have : j * n ≤ 4 * 256 := Nat.mul_le_mul (by omega) (by omega)
                    omega
                  clear hsj
                  generalize hsv : sumTo (stepL l x 3 1) j = sv at *
                  clear hsv
                  go_wp2_with (fail)
                  refine (list_len hst5.out HCE.out).mono ?_
                  rintro e w6 ⟨A6, c6, rfl, hst6⟩
                  have HST6 := Lib.hid hst6
                  clear hst6
                  go_wp2
                  go_roundw
                  case rel => exact ⟨j + 1, by omega, by rw [HSN.out]; go_num, by go_num, HST6⟩
                  case measure => simp [intOf]; omega
                · have hj5 : j = 4 := by omega
                  subst hj5
                  rw [HSM.out]
                  have hB5 := hB.out.below hst5.out.bl hsz.out
                  have hc0 : wr.cell? ⟨w.heap.size, 0, none⟩ = some (.int .i64 n) := hB5.cell 0
                  have hc3 : wr.cell? ⟨w.heap.size, 3, none⟩ = some (.int .i64 rs) := hB5.cell 3
                  clear hB5 hsj
                  obtain ⟨m, hm⟩ : ∃ m, cnt 1 (stepL l x 3 1) = m := ⟨_, rfl⟩
                  have HM := Lib.hid hm
                  have HFR : Hid (frees (stepL l x 3 1) = m) := by unfold Hid; rw [frees_cnt, hm]
                  clear hm
                  have HST := Lib.hid hst5.out
                  clear hst5 hq0 hq1 hy hm
                  by_cases hle : (m : Int) ≤ rs
                  · have HLO : Hid (decide (frees (stepL l x 3 1) ≤ rs) = true) := by unfold Hid; rw [HFR.out]; exact decide_eq_true hle
                    go_wp2_with (fail)
                    go_region_held3 (fun w' => w'.cell? ⟨w.heap.size, 0, none⟩ = some (.int .i64 n) ∧ w'.cell? ⟨w.heap.size, 3, none⟩ = some (.int .i64 rs)) (go_keep)
                      (first
                        | (go_at_call 18; (first | with_reducible refine (state_st (s := 4) HST.out (by first | with_reducible exact HLW.out.1 | with_reducible exact HLW.out.2)).mono ?_ | refine (state_st (s := 4) (HST.out.drewN _) (by first | with_reducible exact HLW.out.1 | with_reducible exact HLW.out.2)).mono ?_); (rintro e w6 ⟨rfl, hst6⟩; have k0 : w6.cell? ⟨w.heap.size, 0, none⟩ = some (.int .i64 n) := (hB.out.below hst6.bl hsz.out).cell 0; have k3 : w6.cell? ⟨w.heap.size, 3, none⟩ = some (.int .i64 rs) := (hB.out.below hst6.bl hsz.out).cell 3; have HST := Lib.hid hst6; clear hst6))
                        | (go_at_call 20; (first | with_reducible refine (low_is HST.out HLO.out).mono ?_ | refine (low_is (HST.out.drewN _) HLO.out).mono ?_); (rintro e w6 ⟨rfl, hst6⟩; have k0 : w6.cell? ⟨w.heap.size, 0, none⟩ = some (.int .i64 n) := (hB.out.below hst6.bl hsz.out).cell 0; have k3 : w6.cell? ⟨w.heap.size, 3, none⟩ = some (.int .i64 rs) := (hB.out.below hst6.bl hsz.out).cell 3; have HST := Lib.hid hst6; clear hst6))
                        | (go_at_call 23; (first | with_reducible refine (list_len HST.out HM.out).mono ?_ | refine (list_len (HST.out.drewN _) HM.out).mono ?_); (rintro e w6 ⟨A6, c6, rfl, hst6⟩; have k0 : w6.cell? ⟨w.heap.size, 0, none⟩ = some (.int .i64 n) := (hB.out.below hst6.bl hsz.out).cell 0; have k3 : w6.cell? ⟨w.heap.size, 3, none⟩ = some (.int .i64 rs) := (hB.out.below hst6.bl hsz.out).cell 3; have HST := Lib.hid hst6; clear hst6)))
                    go_wp2
                    go_roundw
                    case rel => exact ⟨k + 1, _, by omega, by go_num, HST, HG⟩
                    case measure => simp [intOf]; omega
                  · have HLO : Hid (decide (frees (stepL l x 3 1) ≤ rs) = false) := by unfold Hid; rw [HFR.out]; exact decide_eq_false hle
                    go_wp2_with (fail)
                    go_region_held3 (fun w' => w'.cell? ⟨w.heap.size, 0, none⟩ = some (.int .i64 n) ∧ w'.cell? ⟨w.heap.size, 3, none⟩ = some (.int .i64 rs)) (go_keep)
                      (first
                        | (go_at_call 18; (first | with_reducible refine (state_st (s := 4) HST.out (by first | with_reducible exact HLW.out.1 | with_reducible exact HLW.out.2)).mono ?_ | refine (state_st (s := 4) (HST.out.drewN _) (by first | with_reducible exact HLW.out.1 | with_reducible exact HLW.out.2)).mono ?_); (rintro e w6 ⟨rfl, hst6⟩; have k0 : w6.cell? ⟨w.heap.size, 0, none⟩ = some (.int .i64 n) := (hB.out.below hst6.bl hsz.out).cell 0; have k3 : w6.cell? ⟨w.heap.size, 3, none⟩ = some (.int .i64 rs) := (hB.out.below hst6.bl hsz.out).cell 3; have HST := Lib.hid hst6; clear hst6))
                        | (go_at_call 20; (first | with_reducible refine (low_is HST.out HLO.out).mono ?_ | refine (low_is (HST.out.drewN _) HLO.out).mono ?_); (rintro e w6 ⟨rfl, hst6⟩; have k0 : w6.cell? ⟨w.heap.size, 0, none⟩ = some (.int .i64 n) := (hB.out.below hst6.bl hsz.out).cell 0; have k3 : w6.cell? ⟨w.heap.size, 3, none⟩ = some (.int .i64 rs) := (hB.out.below hst6.bl hsz.out).cell 3; have HST := Lib.hid hst6; clear hst6))
                        | (go_at_call 23; (first | with_reducible refine (list_len HST.out HM.out).mono ?_ | refine (list_len (HST.out.drewN _) HM.out).mono ?_); (rintro e w6 ⟨A6, c6, rfl, hst6⟩; have k0 : w6.cell? ⟨w.heap.size, 0, none⟩ = some (.int .i64 n) := (hB.out.below hst6.bl hsz.out).cell 0; have k3 : w6.cell? ⟨w.heap.size, 3, none⟩ = some (.int .i64 rs) := (hB.out.below hst6.bl hsz.out).cell 3; have HST := Lib.hid hst6; clear hst6)))
                    go_wp2
                    go_roundw
                    case rel => exact ⟨k + 1, _, by omega, by go_num, HST, HG⟩
                    case measure => simp [intOf]; omega
            · go_wp2_with (fail)
              refine (found_st hst.out x).mono ?_
              rintro e w3 ⟨rfl, h3⟩
              have HST := Lib.hid h3
              have HG := Lib.hid (hg.out.step hn6 x (a := 1) (c := 3) (by decide) (by decide))
              clear h3 hst hg
              have HSL : Hid (∀ j, sumTo (stepL l x 1 3) j ≤ j * n) := fun j => by have := sumTo_le (stepL l x 1 3) j; rw [HG.out.1.1] at this; exact this
              have HLW := Lib.hid (HG.out.low hn6)
              have HSM := Lib.hid HG.out.sum
              go_wp2_with (fail)
              go_loopw [10, 11] (fun s t wr => ∃ j : Nat, j ≤ 4 ∧ s = .int .i64 (sumTo (stepL l x 1 3) j) ∧ t = .int .u8 (j + 1 : Nat) ∧ Hid (St W1 wr g b (stepL l x 1 3) rs)) (fun _ t _ => 5 - (intOf t).toNat)
              case atStart => exact ⟨0, by omega, rfl, rfl, HST⟩
              case round =>
                obtain ⟨j, hj, rfl, rfl, hst5⟩ := hrel
                clear HST
                have hsj := HSL.out j
                by_cases hj4 : j < 4
                · have hsn := sumTo_succ (stepL l x 1 3) j
                  have HSN := Lib.hid hsn
                  have hcl : cnt ((j : Int) + 1) (stepL l x 1 3) ≤ n := by have := cnt_le ((j : Int) + 1) (stepL l x 1 3); rw [HG.out.1.1] at this; exact this
                  have HCE : Hid (cnt (((j + 1 : Nat) : Int)) (stepL l x 1 3) = cnt ((j : Int) + 1) (stepL l x 1 3)) := by unfold Hid; rw [show ((j + 1 : Nat) : Int) = (j : Int) + 1 by omega]
                  clear hsn
                  generalize cnt ((j : Int) + 1) (stepL l x 1 3) = m at *
                  have hsb : sumTo (stepL l x 1 3) j ≤ 1024 := by
                    have : j * n ≤ 4 * 256 := Nat.mul_le_mul (by omega) (by omega)
                    omega
                  clear hsj
                  generalize hsv : sumTo (stepL l x 1 3) j = sv at *
                  clear hsv
                  go_wp2_with (fail)
                  refine (list_len hst5.out HCE.out).mono ?_
                  rintro e w6 ⟨A6, c6, rfl, hst6⟩
                  have HST6 := Lib.hid hst6
                  clear hst6
                  go_wp2
                  go_roundw
                  case rel => exact ⟨j + 1, by omega, by rw [HSN.out]; go_num, by go_num, HST6⟩
                  case measure => simp [intOf]; omega
                · have hj5 : j = 4 := by omega
                  subst hj5
                  rw [HSM.out]
                  have hB5 := hB.out.below hst5.out.bl hsz.out
                  have hc0 : wr.cell? ⟨w.heap.size, 0, none⟩ = some (.int .i64 n) := hB5.cell 0
                  have hc3 : wr.cell? ⟨w.heap.size, 3, none⟩ = some (.int .i64 rs) := hB5.cell 3
                  clear hB5 hsj
                  obtain ⟨m, hm⟩ : ∃ m, cnt 1 (stepL l x 1 3) = m := ⟨_, rfl⟩
                  have HM := Lib.hid hm
                  have HFR : Hid (frees (stepL l x 1 3) = m) := by unfold Hid; rw [frees_cnt, hm]
                  clear hm
                  have HST := Lib.hid hst5.out
                  clear hst5 hq0 hq1 hy hm
                  by_cases hle : (m : Int) ≤ rs
                  · have HLO : Hid (decide (frees (stepL l x 1 3) ≤ rs) = true) := by unfold Hid; rw [HFR.out]; exact decide_eq_true hle
                    go_wp2_with (fail)
                    go_region_held3 (fun w' => w'.cell? ⟨w.heap.size, 0, none⟩ = some (.int .i64 n) ∧ w'.cell? ⟨w.heap.size, 3, none⟩ = some (.int .i64 rs)) (go_keep)
                      (first
                        | (go_at_call 18; (first | with_reducible refine (state_st (s := 4) HST.out (by first | with_reducible exact HLW.out.1 | with_reducible exact HLW.out.2)).mono ?_ | refine (state_st (s := 4) (HST.out.drewN _) (by first | with_reducible exact HLW.out.1 | with_reducible exact HLW.out.2)).mono ?_); (rintro e w6 ⟨rfl, hst6⟩; have k0 : w6.cell? ⟨w.heap.size, 0, none⟩ = some (.int .i64 n) := (hB.out.below hst6.bl hsz.out).cell 0; have k3 : w6.cell? ⟨w.heap.size, 3, none⟩ = some (.int .i64 rs) := (hB.out.below hst6.bl hsz.out).cell 3; have HST := Lib.hid hst6; clear hst6))
                        | (go_at_call 20; (first | with_reducible refine (low_is HST.out HLO.out).mono ?_ | refine (low_is (HST.out.drewN _) HLO.out).mono ?_); (rintro e w6 ⟨rfl, hst6⟩; have k0 : w6.cell? ⟨w.heap.size, 0, none⟩ = some (.int .i64 n) := (hB.out.below hst6.bl hsz.out).cell 0; have k3 : w6.cell? ⟨w.heap.size, 3, none⟩ = some (.int .i64 rs) := (hB.out.below hst6.bl hsz.out).cell 3; have HST := Lib.hid hst6; clear hst6))
                        | (go_at_call 23; (first | with_reducible refine (list_len HST.out HM.out).mono ?_ | refine (list_len (HST.out.drewN _) HM.out).mono ?_); (rintro e w6 ⟨A6, c6, rfl, hst6⟩; have k0 : w6.cell? ⟨w.heap.size, 0, none⟩ = some (.int .i64 n) := (hB.out.below hst6.bl hsz.out).cell 0; have k3 : w6.cell? ⟨w.heap.size, 3, none⟩ = some (.int .i64 rs) := (hB.out.below hst6.bl hsz.out).cell 3; have HST := Lib.hid hst6; clear hst6)))
                    go_wp2
                    go_roundw
                    case rel => exact ⟨k + 1, _, by omega, by go_num, HST, HG⟩
                    case measure => simp [intOf]; omega
                  · have HLO : Hid (decide (frees (stepL l x 1 3) ≤ rs) = false) := by unfold Hid; rw [HFR.out]; exact decide_eq_false hle
                    go_wp2_with (fail)
                    go_region_held3 (fun w' => w'.cell? ⟨w.heap.size, 0, none⟩ = some (.int .i64 n) ∧ w'.cell? ⟨w.heap.size, 3, none⟩ = some (.int .i64 rs)) (go_keep)
                      (first
                        | (go_at_call 18; (first | with_reducible refine (state_st (s := 4) HST.out (by first | with_reducible exact HLW.out.1 | with_reducible exact HLW.out.2)).mono ?_ | refine (state_st (s := 4) (HST.out.drewN _) (by first | with_reducible exact HLW.out.1 | with_reducible exact HLW.out.2)).mono ?_); (rintro e w6 ⟨rfl, hst6⟩; have k0 : w6.cell? ⟨w.heap.size, 0, none⟩ = some (.int .i64 n) := (hB.out.below hst6.bl hsz.out).cell 0; have k3 : w6.cell? ⟨w.heap.size, 3, none⟩ = some (.int .i64 rs) := (hB.out.below hst6.bl hsz.out).cell 3; have HST := Lib.hid hst6; clear hst6))
                        | (go_at_call 20; (first | with_reducible refine (low_is HST.out HLO.out).mono ?_ | refine (low_is (HST.out.drewN _) HLO.out).mono ?_); (rintro e w6 ⟨rfl, hst6⟩; have k0 : w6.cell? ⟨w.heap.size, 0, none⟩ = some (.int .i64 n) := (hB.out.below hst6.bl hsz.out).cell 0; have k3 : w6.cell? ⟨w.heap.size, 3, none⟩ = some (.int .i64 rs) := (hB.out.below hst6.bl hsz.out).cell 3; have HST := Lib.hid hst6; clear hst6))
                        | (go_at_call 23; (first | with_reducible refine (list_len HST.out HM.out).mono ?_ | refine (list_len (HST.out.drewN _) HM.out).mono ?_); (rintro e w6 ⟨A6, c6, rfl, hst6⟩; have k0 : w6.cell? ⟨w.heap.size, 0, none⟩ = some (.int .i64 n) := (hB.out.below hst6.bl hsz.out).cell 0; have k3 : w6.cell? ⟨w.heap.size, 3, none⟩ = some (.int .i64 rs) := (hB.out.below hst6.bl hsz.out).cell 3; have HST := Lib.hid hst6; clear hst6)))
                    go_wp2
                    go_roundw
                    case rel => exact ⟨k + 1, _, by omega, by go_num, HST, HG⟩
                    case measure => simp [intOf]; omega
          · have hkk : k = xs.length := by omega
            subst hkk
            go_wp2
            go_ret
            exact ⟨rfl, hOut.out _ hst.out.bl⟩
end Go.Proofs.Ytgninjlgeibgpaa
