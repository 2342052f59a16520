/- SegDoes: the walk. -/
import Derived.Test.YtgninjlgeibgpaaDo
import Derived.Test.YtgninjlgeibgpaaOpen
set_option linter.unusedVariables false
namespace Go.Proofs.Ytgninjlgeibgpaa
open Go.RowKit

theorem kinds4 {y : Int} (h : 0 ≤ y ∧ y ≤ 255) : y.tmod 4 = 0 ∨ y.tmod 4 = 1 ∨ y.tmod 4 = 2 ∨ y.tmod 4 = 3 := by
  rw [Int.tmod_eq_emod_of_nonneg h.1]
  omega

theorem add_field (ad : Addr) (k : Nat) : ad.add (k * 2 + 1) = ⟨(ad.add (k * 2)).block, (ad.add (k * 2)).off + 1, none⟩ := by
  by_cases h : k * 2 = 0
  · simp [Addr.add, h]
  · simp [Addr.add, h]; omega

set_option maxRecDepth 20000 in
theorem does_walk (z zb bl rs : Int) (A : Option Addr) (c : Nat) (xs : List (Int × Int)) (s : Int) (w : World) (hz : -9223372036854775808 ≤ z ∧ z ≤ 9223372036854775807) (hb : -9223372036854775808 ≤ bl ∧ bl ≤ 9223372036854775807)
    (hxl : xs.length ≤ c) (hcm : c ≤ maxLen) (hR : PairsAt w w.heap.size A .u8 .i64 xs) (hK : ∀ i, i < xs.length → 0 ≤ (xs.getD i (0, 0)).1 ∧ (xs.getD i (0, 0)).1 ≤ 255) :
    Calls Try.prog 3 #[.agg #[.int .i64 z, .int .i64 zb, .int .i64 bl, .int .i64 rs], .slice A xs.length c, .int .u8 s] w (Okay w) := by
  have HR := Lib.hid (hR.below ((Below.refl w.heap.size w).alloc (Nat.le_refl _) (.cells #[.int .i64 z, .int .i64 zb, .int .i64 bl, .int .i64 rs] 23)))
  have HK := Lib.hid hK
  clear hR hK
  unfold maxLen at hcm
  have hB := Lib.hid (Blk.new w 23 #[.int .i64 z, .int .i64 zb, .int .i64 bl, .int .i64 rs])
  have hW : Hid (Below (w.alloc (.cells #[.int .i64 z, .int .i64 zb, .int .i64 bl, .int .i64 rs] 23)).heap.size (w.alloc (.cells #[.int .i64 z, .int .i64 zb, .int .i64 bl, .int .i64 rs] 23)) (w.alloc (.cells #[.int .i64 z, .int .i64 zb, .int .i64 bl, .int .i64 rs] 23))) := Below.refl _ _
  have hOut : Hid (∀ w', Below (w.alloc (.cells #[.int .i64 z, .int .i64 zb, .int .i64 bl, .int .i64 rs] 23)).heap.size (w.alloc (.cells #[.int .i64 z, .int .i64 zb, .int .i64 bl, .int .i64 rs] 23)) w' → Below w.heap.size w w') := fun w' h => ((Below.refl _ _).alloc (Nat.le_refl _) _).trans (h.mono (by simp))
  have hsz : Hid (w.heap.size < (w.alloc (.cells #[.int .i64 z, .int .i64 zb, .int .i64 bl, .int .i64 rs] 23)).heap.size) := by unfold Hid; simp
  have hc0 : (w.alloc (.cells #[.int .i64 z, .int .i64 zb, .int .i64 bl, .int .i64 rs] 23)).cell? ⟨w.heap.size, 0, none⟩ = some (.int .i64 z) := hB.out.cell 0
  go_enter Try.func3, Try.ntmps3
  go_upto_region 1 with (fail)
  generalize hW1 : w.alloc (.cells #[.int .i64 z, .int .i64 zb, .int .i64 bl, .int .i64 rs] 23) = W1 at *
  clear hW1
  by_cases h300 : z > 300
  · go_wp2_with (fail)
    refine (known_is hW.out).mono ?_
    rintro e w1 ⟨rfl, hb1⟩
    go_wp2
    go_ret
    exact ⟨rfl, hOut.out _ hb1⟩
  · by_cases hlong : 400 < xs.length
    · go_wp2_with (fail)
      refine (known_is hW.out).mono ?_
      rintro e w1 ⟨rfl, hb1⟩
      go_wp2
      go_ret
      exact ⟨rfl, hOut.out _ hb1⟩
    · go_wp2_with (fail)
      refine (known_is hW.out).mono ?_
      rintro e w1 ⟨rfl, hb1⟩
      have hB1 := hB.out.below hb1 hsz.out
      have hc0 : w1.cell? ⟨w.heap.size, 0, none⟩ = some (.int .i64 z) := hB1.cell 0
      have hc1 : w1.cell? ⟨w.heap.size, 1, none⟩ = some (.int .i64 zb) := hB1.cell 1
      have hc2 : w1.cell? ⟨w.heap.size, 2, none⟩ = some (.int .i64 bl) := hB1.cell 2
      have hc3 : w1.cell? ⟨w.heap.size, 3, none⟩ = some (.int .i64 rs) := hB1.cell 3
      have HB1 := Lib.hid hb1
      clear hB1 hb1
      cases hr : rightB z zb bl rs with
      | false =>
        have HF := Lib.hid hr
        have HZ := Lib.hid hz
        have HBb := Lib.hid hb
        clear hr hz hb
        go_wp2_with (fail)
        refine (new_no HZ.out HBb.out HB1.out HF.out).mono ?_
        rintro e w2 ⟨rfl, hb2⟩
        have hB2 := hB.out.below hb2 hsz.out
        have hc0 : w2.cell? ⟨w.heap.size, 0, none⟩ = some (.int .i64 z) := hB2.cell 0
        have hc1 : w2.cell? ⟨w.heap.size, 1, none⟩ = some (.int .i64 zb) := hB2.cell 1
        have hc2 : w2.cell? ⟨w.heap.size, 2, none⟩ = some (.int .i64 bl) := hB2.cell 2
        have hc3 : w2.cell? ⟨w.heap.size, 3, none⟩ = some (.int .i64 rs) := hB2.cell 3
        have HB2 := Lib.hid hb2
        clear hB2 hb2
        go_wp2_with (fail)
        refine (sd_new_no HZ.out HB2.out HF.out).mono ?_
        rintro e w3 ⟨rfl, hb3⟩
        go_wp2
        go_ret
        exact ⟨rfl, hOut.out _ hb3⟩
      | true =>
        have HT := Lib.hid hr
        have hz2 := (right_z hr).1
        clear hr hz hb h300
        obtain ⟨n, rfl⟩ := Int.eq_ofNat_of_zero_le (show 0 ≤ z by omega)
        go_wp2_with (fail)
        refine (new_yes HB1.out HT.out).mono ?_
        rintro e w2 ⟨g, b, rfl, hst⟩
        have hB2 := hB.out.below hst.bl hsz.out
        have hc0 : w2.cell? ⟨w.heap.size, 0, none⟩ = some (.int .i64 n) := hB2.cell 0
        have hc1 : w2.cell? ⟨w.heap.size, 1, none⟩ = some (.int .i64 zb) := hB2.cell 1
        have hc2 : w2.cell? ⟨w.heap.size, 2, none⟩ = some (.int .i64 bl) := hB2.cell 2
        have hc3 : w2.cell? ⟨w.heap.size, 3, none⟩ = some (.int .i64 rs) := hB2.cell 3
        have HST := Lib.hid hst
        clear hB2 hst
        go_wp2_with (fail)
        refine (sd_new HST.out HT.out).mono ?_
        rintro e w3 ⟨g', b', cap, ex, rfl, hst⟩
        have HST2 := Lib.hid hst
        clear hst hc0 hc1 hc2 hc3 HST
        have HLN : Hid ((newL (n : Int)).length = n) := by unfold Hid; rw [newL_length _ (by omega)]; simp
        go_wp2_with (fail)
        go_loopw [9] (fun i wr => ∃ (k : Nat) (l : List Int), k ≤ xs.length ∧ i = .int .i64 k ∧ Hid (SD W1 wr g b g' b' cap ex l l n zb bl rs) ∧ Hid (l.length = n)) (fun i _ => xs.length - (intOf i).toNat)
        case atStart => exact ⟨0, newL n, Nat.zero_le _, rfl, HST2.out, HLN.out⟩
        case round =>
          obtain ⟨k, l, hk, rfl, hst, hl⟩ := hrel
          clear HST2 HLN
          by_cases hlt : k < xs.length
          · obtain ⟨ad, hA, had, hp0, hp1⟩ := HR.out k hlt
            have hq0 : wr.cell? (ad.add (k * 2)) = some (.int .u8 (xs.getD k (0, 0)).1) := (hst.out.bw.cell (by rw [block_of_add]; have := hsz.out; omega)).trans hp0
            have hq1 : wr.cell? (ad.add (k * 2 + 1)) = some (.int .i64 (xs.getD k (0, 0)).2) := (hst.out.bw.cell (by rw [block_of_add]; have := hsz.out; omega)).trans hp1
            have hy := HK.out k hlt
            rw [add_field] at hq1
            subst hA
            clear hp0 hp1
            generalize (xs.getD k (0, 0)).1 = y at *
            generalize (xs.getD k (0, 0)).2 = x at *
            rcases kinds4 hy with hm | hm | hm | hm
            · go_wp2_with (fail)
              refine (sd_take hst.out).mono ?_
              rintro e w3 ⟨rfl, h3⟩
              have H3 := Lib.hid h3
              clear h3
              go_wp2_with (fail)
              refine (sd_rtake H3.out).mono ?_
              rintro e w4 ⟨rfl, h4⟩
              have h2 := Lib.hid h4
              have HLN : Hid ((takeL l).length = l.length) := takeL_length l
              have HLS : Hid ((listTo (takeL l) s (takeL l).length).length ≤ 1000000) := by
                unfold Hid
                have h1 := listTo_le (takeL l) s (takeL l).length
                have h3 := h2.out.len
                omega
              clear h4 H3
              go_wp2_with (fail)
              refine (sd_state h2.out _).mono ?_
              rintro e w5 ⟨rfl, rfl⟩
              go_wp2_with (fail)
              refine (sd_rstate h2.out _).mono ?_
              rintro e w6 ⟨rfl, rfl⟩
              go_wp2_with (fail)
              refine (sd_low h2.out).mono ?_
              rintro e w7 ⟨rfl, h7⟩
              have H7 := Lib.hid h7
              clear h7 h2
              go_wp2_with (fail)
              refine (sd_rlow H7.out).mono ?_
              rintro e w8 ⟨rfl, h8⟩
              have H8 := Lib.hid h8
              clear h8 H7
              go_wp2_with (fail)
              refine (sd_list H8.out s).mono ?_
              rintro e w9 ⟨A9, c9, rfl, h9, r9, _⟩
              have H9 := Lib.hid h9
              clear h9 H8
              go_wp2_with (fail)
              refine (sd_rlist H9.out s).mono ?_
              rintro e w10 ⟨A10, c10, rfl, h10, r10, b10⟩
              have H10 := Lib.hid h10
              have R9 := Lib.hid (r9.out.below b10.out)
              clear h10 H9 r9 b10
              go_wp2_with (fail)
              refine (sameInts_same _ A9 A10 c9 c10 _ _ _ HLS.out R9.out r10.out).mono ?_
              rintro e w11 ⟨rfl, n11, rfl⟩
              go_wp2
              go_roundw
              case rel => exact ⟨k + 1, _, by omega, by go_num, H10.out.drewN n11, by rw [HLN.out]; exact hl.out⟩
              case measure => simp [intOf]; omega
            · go_wp2_with (fail)
              refine (sd_fill hst.out _).mono ?_
              rintro e w3 ⟨rfl, h3⟩
              have H3 := Lib.hid h3
              clear h3
              go_wp2_with (fail)
              refine (sd_rfill H3.out _).mono ?_
              rintro e w4 ⟨rfl, h4⟩
              have h2 := Lib.hid h4
              have HLN : Hid ((stepL l x 2 3).length = l.length) := stepL_length _ _ _ _
              have HLS : Hid ((listTo (stepL l x 2 3) s (stepL l x 2 3).length).length ≤ 1000000) := by
                unfold Hid
                have h1 := listTo_le (stepL l x 2 3) s (stepL l x 2 3).length
                have h3 := h2.out.len
                omega
              clear h4 H3
              go_wp2_with (fail)
              refine (sd_state h2.out _).mono ?_
              rintro e w5 ⟨rfl, rfl⟩
              go_wp2_with (fail)
              refine (sd_rstate h2.out _).mono ?_
              rintro e w6 ⟨rfl, rfl⟩
              go_wp2_with (fail)
              refine (sd_low h2.out).mono ?_
              rintro e w7 ⟨rfl, h7⟩
              have H7 := Lib.hid h7
              clear h7 h2
              go_wp2_with (fail)
              refine (sd_rlow H7.out).mono ?_
              rintro e w8 ⟨rfl, h8⟩
              have H8 := Lib.hid h8
              clear h8 H7
              go_wp2_with (fail)
              refine (sd_list H8.out s).mono ?_
              rintro e w9 ⟨A9, c9, rfl, h9, r9, _⟩
              have H9 := Lib.hid h9
              clear h9 H8
              go_wp2_with (fail)
              refine (sd_rlist H9.out s).mono ?_
              rintro e w10 ⟨A10, c10, rfl, h10, r10, b10⟩
              have H10 := Lib.hid h10
              have R9 := Lib.hid (r9.out.below b10.out)
              clear h10 H9 r9 b10
              go_wp2_with (fail)
              refine (sameInts_same _ A9 A10 c9 c10 _ _ _ HLS.out R9.out r10.out).mono ?_
              rintro e w11 ⟨rfl, n11, rfl⟩
              go_wp2
              go_roundw
              case rel => exact ⟨k + 1, _, by omega, by go_num, H10.out.drewN n11, by rw [HLN.out]; exact hl.out⟩
              case measure => simp [intOf]; omega
            · go_wp2_with (fail)
              refine (sd_clear hst.out _).mono ?_
              rintro e w3 ⟨rfl, h3⟩
              have H3 := Lib.hid h3
              clear h3
              go_wp2_with (fail)
              refine (sd_rclear H3.out _).mono ?_
              rintro e w4 ⟨rfl, h4⟩
              have h2 := Lib.hid h4
              have HLN : Hid ((stepL l x 3 1).length = l.length) := stepL_length _ _ _ _
              have HLS : Hid ((listTo (stepL l x 3 1) s (stepL l x 3 1).length).length ≤ 1000000) := by
                unfold Hid
                have h1 := listTo_le (stepL l x 3 1) s (stepL l x 3 1).length
                have h3 := h2.out.len
                omega
              clear h4 H3
              go_wp2_with (fail)
              refine (sd_state h2.out _).mono ?_
              rintro e w5 ⟨rfl, rfl⟩
              go_wp2_with (fail)
              refine (sd_rstate h2.out _).mono ?_
              rintro e w6 ⟨rfl, rfl⟩
              go_wp2_with (fail)
              refine (sd_low h2.out).mono ?_
              rintro e w7 ⟨rfl, h7⟩
              have H7 := Lib.hid h7
              clear h7 h2
              go_wp2_with (fail)
              refine (sd_rlow H7.out).mono ?_
              rintro e w8 ⟨rfl, h8⟩
              have H8 := Lib.hid h8
              clear h8 H7
              go_wp2_with (fail)
              refine (sd_list H8.out s).mono ?_
              rintro e w9 ⟨A9, c9, rfl, h9, r9, _⟩
              have H9 := Lib.hid h9
              clear h9 H8
              go_wp2_with (fail)
              refine (sd_rlist H9.out s).mono ?_
              rintro e w10 ⟨A10, c10, rfl, h10, r10, b10⟩
              have H10 := Lib.hid h10
              have R9 := Lib.hid (r9.out.below b10.out)
              clear h10 H9 r9 b10
              go_wp2_with (fail)
              refine (sameInts_same _ A9 A10 c9 c10 _ _ _ HLS.out R9.out r10.out).mono ?_
              rintro e w11 ⟨rfl, n11, rfl⟩
              go_wp2
              go_roundw
              case rel => exact ⟨k + 1, _, by omega, by go_num, H10.out.drewN n11, by rw [HLN.out]; exact hl.out⟩
              case measure => simp [intOf]; omega
            · go_wp2_with (fail)
              refine (sd_found hst.out _).mono ?_
              rintro e w3 ⟨rfl, h3⟩
              have H3 := Lib.hid h3
              clear h3
              go_wp2_with (fail)
              refine (sd_rfound H3.out _).mono ?_
              rintro e w4 ⟨rfl, h4⟩
              have h2 := Lib.hid h4
              have HLN : Hid ((stepL l x 1 3).length = l.length) := stepL_length _ _ _ _
              have HLS : Hid ((listTo (stepL l x 1 3) s (stepL l x 1 3).length).length ≤ 1000000) := by
                unfold Hid
                have h1 := listTo_le (stepL l x 1 3) s (stepL l x 1 3).length
                have h3 := h2.out.len
                omega
              clear h4 H3
              go_wp2_with (fail)
              refine (sd_state h2.out _).mono ?_
              rintro e w5 ⟨rfl, rfl⟩
              go_wp2_with (fail)
              refine (sd_rstate h2.out _).mono ?_
              rintro e w6 ⟨rfl, rfl⟩
              go_wp2_with (fail)
              refine (sd_low h2.out).mono ?_
              rintro e w7 ⟨rfl, h7⟩
              have H7 := Lib.hid h7
              clear h7 h2
              go_wp2_with (fail)
              refine (sd_rlow H7.out).mono ?_
              rintro e w8 ⟨rfl, h8⟩
              have H8 := Lib.hid h8
              clear h8 H7
              go_wp2_with (fail)
              refine (sd_list H8.out s).mono ?_
              rintro e w9 ⟨A9, c9, rfl, h9, r9, _⟩
              have H9 := Lib.hid h9
              clear h9 H8
              go_wp2_with (fail)
              refine (sd_rlist H9.out s).mono ?_
              rintro e w10 ⟨A10, c10, rfl, h10, r10, b10⟩
              have H10 := Lib.hid h10
              have R9 := Lib.hid (r9.out.below b10.out)
              clear h10 H9 r9 b10
              go_wp2_with (fail)
              refine (sameInts_same _ A9 A10 c9 c10 _ _ _ HLS.out R9.out r10.out).mono ?_
              rintro e w11 ⟨rfl, n11, rfl⟩
              go_wp2
              go_roundw
              case rel => exact ⟨k + 1, _, by omega, by go_num, H10.out.drewN n11, by rw [HLN.out]; exact hl.out⟩
              case measure => simp [intOf]; omega
          · have hkk : k = xs.length := by omega
            subst hkk
            go_wp2
            go_ret
            exact ⟨rfl, hOut.out _ hst.out.bw⟩
end Go.Proofs.Ytgninjlgeibgpaa
