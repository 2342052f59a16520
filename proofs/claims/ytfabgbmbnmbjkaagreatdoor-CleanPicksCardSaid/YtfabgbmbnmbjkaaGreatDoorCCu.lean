/- Pruned. -/
import Derived.Test.YtfabgbmbnmbjkaaGreatDoorCCt
import Derived.Test.YtfabgbmbnmbjkaaGreatDoorAbq
namespace Go.Proofs.YtfabgbmbnmbjkaaGreatDoor
open Go.RowKit
set_option maxRecDepth 20000
theorem worth_num {sh : Sh} {m : StM} (hok : sh.ok) {z : Int} (hf : fewM sh m z = true) : Sco.isNan (worthM sh m z) = false := by
 have hfc := hok.facts
 have hl : liveM m z <= sh.zb / 2 := of_decide_eq_true hf
 have ha : 0 <= ageM m z ∧ ageM m z < 18446744073709551616 := by unfold ageM; rw [IntKind.wrap_u64]; omega
 obtain ⟨c, hc⟩ := Int.eq_ofNat_of_zero_le ha.1
 have h := wv_is (liveM m z) sh.zb (ageM m z)
 unfold worthM
 rw [hc] at h ⊢
 exact Sco.nan_rung (Sco.worth_fits (by omega) (by omega) (by omega) (by omega) h)
theorem pick_none {sh : Sh} {m : StM} (hok : sh.ok) (hg : m.G.length = sh.z) (he : emptyM m = none) (h : pickM sh m < 0) : (fullM m).any (fewM sh m) = false := by
 unfold pickM at h
 rw [he] at h
 simp only at h
 rw [List.any_eq_false]
 intro x hx hf
 have h3 := (fullM_mem m x).1 hx
 have hi := stateAt_in (z := x) (G := m.G) (by rw [h3]; decide)
 obtain ⟨k, rfl⟩ := Int.eq_ofNat_of_zero_le hi.1
 rcases Sco.rbest_is (worthsM sh m) sh.z with ⟨_, h2⟩ | ⟨j, h1, _⟩
 · have := h2 k (by omega)
   rw [worthsM_get _ _ _ (by omega)] at this
   unfold worthAt at this
   rw [if_pos ⟨h3, hf⟩, worth_num hok hf] at this
   cases this
 · omega
theorem pick_some {sh : Sh} {m : StM} (he : emptyM m = none) (h : 0 <= pickM sh m) : fewM sh m (pickM sh m) = true ∧ (fullM m).any (fewM sh m) = true := by
 have h3 := pick_full h
 have hf : fewM sh m (pickM sh m) = true := by
  unfold pickM at h ⊢
  rw [he] at h ⊢
  simp only at h ⊢
  rcases Sco.rbest_is (worthsM sh m) sh.z with ⟨h1, _⟩ | ⟨k, h1, h2, h3, _⟩
  · omega
  · rw [h1]
    rw [worthsM_get _ _ _ h2] at h3
    unfold worthAt at h3
    split at h3
    · rename_i hc; exact hc.2
    · rw [nanW_nan] at h3; cases h3
 exact ⟨hf, List.any_eq_true.2 ⟨_, (fullM_mem m _).2 h3, hf⟩⟩
def emF (m : StM) (j : Nat) : Int := (((fullM m).drop j).find? (fun z => decide (liveM m z = 0))).getD (-1)
def fwF (sh : Sh) (m : StM) (j : Nat) : Bool := ((fullM m).drop j).any (fewM sh m)
theorem drop_at {m : StM} {j : Nat} (h : j < (fullM m).length) : (fullM m).drop j = (fullM m).getD j 0 :: (fullM m).drop (j + 1) := by
 rw [List.drop_eq_getElem_cons h, List.getD_eq_getElem?_getD, List.getElem?_eq_getElem h]
 rfl
theorem emF_at {m : StM} {j : Nat} (h : j < (fullM m).length) : emF m j = if liveM m ((fullM m).getD j 0) = 0 then (fullM m).getD j 0 else emF m (j + 1) := by
 unfold emF
 rw [drop_at h, List.find?_cons]
 by_cases h0 : liveM m ((fullM m).getD j 0) = 0
 · rw [if_pos h0, decide_eq_true h0]; rfl
 · rw [if_neg h0, decide_eq_false h0]
theorem fwF_at {sh : Sh} {m : StM} {j : Nat} (h : j < (fullM m).length) : fwF sh m j = (fewM sh m ((fullM m).getD j 0) || fwF sh m (j + 1)) := by
 unfold fwF
 rw [drop_at h, List.any_cons]
set_option maxHeartbeats 4000000 in
theorem cpicks_law (w : World) (z zb bl rs : Int) (hz : -9223372036854775808 <= z ∧ z <= 9223372036854775807) (hb : -9223372036854775808 <= bl ∧ bl <= 9223372036854775807) (A : Option Addr) (c : Nat) (l : List Opv) (_hc : l.length <= c) (hp : SOpsAt (fun b => b < w.heap.size) w A l) (hv : ∀ o ∈ l, OpIn o) :
    Calls Tryz.prog 6 #[.agg #[.int .i64 z, .int .i64 zb, .int .i64 bl, .int .i64 rs], .slice A l.length c] w (Makes (.bool true) w) := by
 have HK := Lib.hid (fun u => cknown_any u)
 have HSB := Lib.hid (Blk.new w 23 #[.int .i64 z, .int .i64 zb, .int .i64 bl, .int .i64 rs])
 have HBW : Hid (Below w.heap.size w (w.alloc (.cells #[.int .i64 z, .int .i64 zb, .int .i64 bl, .int .i64 rs] 23))) := (Below.refl _ _).alloc (Nat.le_refl _) _
 have HP := Lib.hid (hp.below HBW.out)
 have HH := Lib.hid (heavys_any _ (w.alloc (.cells #[.int .i64 z, .int .i64 zb, .int .i64 bl, .int .i64 rs] 23)) z zb bl rs A c l HP.out)
 have HBO := Lib.hid (fun u (hu : Below (w.alloc (.cells #[.int .i64 z, .int .i64 zb, .int .i64 bl, .int .i64 rs] 23)).heap.size (w.alloc (.cells #[.int .i64 z, .int .i64 zb, .int .i64 bl, .int .i64 rs] 23)) u) (hh : heavysM z zb bl l = false) => both_any u z zb bl rs hz hb (fun b => b < w.heap.size) (fun b hb => Nat.lt_of_lt_of_le hb (Nat.le_trans HBW.out.size hu.size)) A c l (HP.out.below hu) hv hh)
 clear hp hv hz hb _hc HP
 go_enter Tryz.func6, Tryz.ntmps6
 cases hh : heavysM z zb bl l with
 | true =>
   rw [hh] at HH
   simp only [if_true] at HH
   clear hh HBO
   go_wp2_with (fail)
   refine HH.out.mono ?_
   rintro e w2 ⟨rfl, hb2⟩
   have HB2 := Lib.hid (HBW.out.trans (hb2.mono HBW.out.size))
   clear hb2
   go_wp2_with (fail)
   refine (HK.out _).mono ?_
   rintro e w3 ⟨rfl, hb3⟩
   have HB3 := Lib.hid (HB2.out.trans (hb3.mono HB2.out.size))
   clear hb3
   go_wp2
   go_ret
   exact ⟨rfl, HB3.out⟩
 | false =>
   rw [hh] at HH
   simp only [Bool.false_eq_true, if_false] at HH
   have HHV := Lib.hid hh
   clear hh
   go_wp2_with (fail)
   obtain ⟨w1, hw1⟩ : ∃ w1, w.alloc (.cells #[.int .i64 z, .int .i64 zb, .int .i64 bl, .int .i64 rs] 23) = w1 := ⟨_, rfl⟩
   rw [hw1] at HSB HBW HH HBO ⊢
   clear hw1
   refine HH.out.mono ?_
   rintro e w2 ⟨rfl, hb2⟩
   have HB2 := Lib.hid hb2
   clear hb2 HH
   go_wp2_with (fail)
   refine (HK.out _).mono ?_
   rintro e w3 ⟨rfl, hb3⟩
   have HB13 : Hid (Below w1.heap.size w1 w3) := HB2.out.trans (hb3.mono HB2.out.size)
   have HB3 : Hid (Below w.heap.size w w3) := HBW.out.trans (HB13.out.mono HBW.out.size)
   have hsb := HSB.out.below HB13.out HSB.out.lt
   have s0 : w3.cell? ⟨w.heap.size, 0, none⟩ = some (.int .i64 z) := hsb.cell 0
   have s1 : w3.cell? ⟨w.heap.size, 1, none⟩ = some (.int .i64 zb) := hsb.cell 1
   have s2 : w3.cell? ⟨w.heap.size, 2, none⟩ = some (.int .i64 bl) := hsb.cell 2
   have s3 : w3.cell? ⟨w.heap.size, 3, none⟩ = some (.int .i64 rs) := hsb.cell 3
   have HBX := Lib.hid (HBO.out w3 HB13.out HHV.out)
   have HS3 := Lib.hid hsb
   unfold BothR at HBX
   clear hb3 hsb HB2 HK HBO HSB
   go_wp2_with (fail)
   refine HBX.out.mono ?_
   rintro e w4 ⟨hb4, ⟨hr, rfl⟩ | ⟨hr, F, Q, sh, m, rfl, rfl, rfl, rfl, rfl, hd⟩⟩
   · clear s0 s1 s2 s3 HBX HB13 HS3
     have HE : Hid (Below w.heap.size w w4) := HB3.out.trans (hb4.mono HB3.out.size)
     clear hb4 hr
     go_wp2
     go_ret
     exact ⟨rfl, HE.out⟩
   · have hsm := heavys_small HHV.out
     have hl4 := (heavys_false HHV.out).2.1
     have HC : Hid (ClS w w4 F Q sh (150 * l.length) (30 * l.length) m) := (hd.base HB3.out).cl
     have HBOX : Hid (ClP w3 w4 F sh (150 * l.length) m ∧ Blk w3 w.heap.size 23 #[.int .i64 sh.z, .int .i64 sh.zb, .int .i64 sh.bl, .int .i64 sh.rs]) := ⟨hd.cl.p, HS3.out⟩
     clear s0 s1 s2 s3 HBX HB13 HS3 hd hr hb4
     have HPK := Lib.hid HBOX.out.1.pick
     have HSH := Lib.hid HBOX.out.2
     have HOK := Lib.hid HBOX.out.1.ok
     have HGL := Lib.hid HC.out.inv.g.gl
     have hzb16 : sh.zb <= 16 := by omega
     have hfl : (fullM m).length <= m.G.length := listTo_le _ _ _
     have hgl : m.G.length <= 12 := by have := HGL.out; omega
     have hqq : ((sh.zb : Int)).tdiv 2 = ((sh.zb / 2 : Nat) : Int) := by rw [Int.tdiv_eq_ediv_of_nonneg (by omega)]; omega
     clear HC HBOX
     obtain ⟨z, hz⟩ : ∃ z, pickM sh m = z := ⟨_, rfl⟩
     have HZ := Lib.hid hz
     rw [hz] at HPK
     clear hz
     go_wp2_with (fail)
     refine HPK.out.mono ?_
     rintro e w5 ⟨rfl, h5⟩
     have H5 := Lib.hid h5
     have HLI : Hid (Calls Tryz.prog 31 #[.pointer (some ⟨F.g, 0, none⟩), .int .u8 3] w5 (Lists (fullM m) w5)) := by
      obtain ⟨X, h1, h2⟩ := h5.st
      exact list_any F.g F.gb m.G sh.rs _ 3 w5 h2.seg.2 h2.seg.1
     clear h5 HPK
     go_wp2_with (fail)
     refine H5.out.seg_.mono ?_
     rintro e u ⟨rfl, rfl⟩
     go_wp2_with (fail)
     refine HLI.out.mono ?_
     rintro e w6 ⟨A5, c5, rfl, hrd, hb6, _⟩
     have HF : Hid (∀ j, j < (fullM m).length -> ∃ ad, A5 = some ad ∧ w6.cell? (ad.add j) = some (.int .i64 ((fullM m).getD j 0))) := fun j hj => by
      obtain ⟨ad, e, hlt5, hc⟩ := hrd.2 (by omega)
      refine ⟨ad, e, hc j _ ?_⟩
      rw [List.getD_eq_getElem?_getD, List.getElem?_eq_getElem hj]
      unfold nums
      rw [List.getElem?_map, List.getElem?_eq_getElem hj]
      rfl
     have H6 : Hid (ClP w3 w6 F sh (150 * l.length) m ∧ Below w6.heap.size w6 w6) := ⟨H5.out.below hb6, Below.refl _ _⟩
     have hlw : IntKind.i64.wrap (((fullM m).length : Int) - 1) = ((fullM m).length : Int) - 1 := by rw [IntKind.wrap_i64]; omega
     have he0 : emF m (fullM m).length = -1 := by unfold emF; rw [List.drop_length]; rfl
     have hf0 : fwF sh m (fullM m).length = false := by unfold fwF; rw [List.drop_length]; rfl
     have HE0 := Lib.hid (And.intro he0 hf0)
     clear hrd hb6 HLI H5 he0 hf0
     go_wp2_with (fail)
     go_loopw [9, 10, 11] (fun e f i wr => ∃ j : Nat, j <= (fullM m).length ∧ e = .int .i64 (emF m j) ∧ f = .bool (fwF sh m j) ∧ i = .int .i64 ((j : Int) - 1) ∧ Hid (ClP w3 wr F sh (150 * l.length) m ∧ Below w6.heap.size w6 wr)) (fun _ _ i _ => (intOf i + 1).toNat)
     case atStart => exact ⟨(fullM m).length, Nat.le_refl _, by rw [HE0.out.1], by rw [HE0.out.2], rfl, H6⟩
     case round =>
      clear H6
      obtain ⟨jj, hj, rfl, rfl, rfl, hr⟩ := hrel
      cases jj with
      | zero =>
        have hem : emF m 0 = (emptyM m).getD (-1) := by unfold emF emptyM; rw [List.drop_zero]
        have hfw : fwF sh m 0 = (fullM m).any (fewM sh m) := by unfold fwF; rw [List.drop_zero]
        rw [hem, hfw]
        have HE : Hid (Below w.heap.size w wr) := HB3.out.trans (hr.out.1.low.mono HB3.out.size)
        have b1 : wr.cell? ⟨w.heap.size, 1, none⟩ = some (.int .i64 sh.zb) := (HSH.out.below hr.out.1.low HSH.out.lt).cell 1
        have HP := Lib.hid hr.out.1
        clear hr hem hfw
        cases he : emptyM m with
        | some y =>
          have hy0 : 0 <= y := by
           have h3 := (fullM_mem m y).1 (List.mem_of_find?_eq_some he)
           exact (stateAt_in (z := y) (G := m.G) (by rw [h3]; decide)).1
          have hzy : z = y := by rw [<- HZ.out]; unfold pickM; rw [he]
          subst hzy
          simp only [Option.getD_some]
          clear he
          go_wp2
          go_ret
          exact ⟨by simp, HE.out⟩
        | none =>
          simp only [Option.getD_none]
          by_cases hz0 : z < 0
          · have ha := pick_none HOK.out HGL.out he (by rw [HZ.out]; exact hz0)
            rw [ha]
            clear he ha
            go_wp2
            go_ret
            exact ⟨by simp, HE.out⟩
          · have ha := pick_some (sh := sh) he (by rw [HZ.out]; omega)
            have h3 := pick_full (sh := sh) (m := m) (by rw [HZ.out]; omega)
            rw [HZ.out] at ha h3
            have HZ3 := Lib.hid h3
            have hlv : liveM m z <= sh.zb / 2 := of_decide_eq_true ha.1
            have hlvi : ((liveM m z : Nat) : Int) <= ((sh.zb / 2 : Nat) : Int) := by omega
            rw [ha.2]
            have hqw : IntKind.i64.wrap ((sh.zb : Int) / 2) = (sh.zb : Int) / 2 := by rw [IntKind.wrap_i64]; omega
            have hlv2 : ((liveM m z : Nat) : Int) <= (sh.zb : Int) / 2 := by omega
            clear he ha h3
            go_wp2_with (fail)
            generalize hbx : w.heap.size = bx at b1 ⊢
            refine wp_region_rel (fun i v w => match i with | 0 => (v = .bool true) | 1 => (v = .bool true) | 2 => (v = .pointer (some ⟨F.s, 0, none⟩)) | 3 => (v = .pointer (some ⟨F.g, 0, none⟩)) | 4 => (v = .int .i64 z) | 5 => (v = .int .u8 3) | 6 => (v = .bool true) | 7 => (v = .bool true) | 8 => (v = .bool true) | 9 => (v = .pointer (some ⟨F.s, 0, none⟩)) | 10 => (v = .pointer (some ⟨F.f.g, 0, none⟩)) | 11 => (v = .int .i64 z) | 12 => (∃ A c, v = .slice A (liveM m (z)) c) | 13 => (v = .int .i64 (liveM m z : Nat)) | 14 => (v = .pointer (some ⟨bx, 1, none⟩)) | 15 => (v = .int .i64 sh.zb) | 16 => (v = .int .i64 ((sh.zb : Int) / 2)) | 17 => (v = .bool true) | 18 => (v = .bool true) | 19 => (v = .bool true) | _ => False) (by kernel_rfl) (by kernel_rfl) ?st ?op ?fin
            case st =>
             intro i v w w' h hb
             match i, h with
             | 0, h => exact h
             | 1, h => exact h
             | 2, h => exact h
             | 3, h => exact h
             | 4, h => exact h
             | 5, h => exact h
             | 6, h => exact h
             | 7, h => exact h
             | 8, h => exact h
             | 9, h => exact h
             | 10, h => exact h
             | 11, h => exact h
             | 12, h => exact h
             | 13, h => exact h
             | 14, h => exact h
             | 15, h => exact h
             | 16, h => exact h
             | 17, h => exact h
             | 18, h => exact h
             | 19, h => exact h
             | _ + 20, h => exact h.elim
            case op =>
             refine ⟨?_, ?_, ?_, ?_, ?_, ?_, ?_, ?_, ?_, ?_, ?_, ?_, ?_, ?_, ?_, ?_, ?_, ?_, ?_, ?_, trivial⟩
             · intro a w hb hd hn K hK
               exact st_if (wanted_none rfl) (st_move (.inl rfl) (ev ((hn 10 (by kernel_rfl)).trans rfl)) (hK _ _ rfl (Below.refl _ _)))
             · intro a w hb hd hn K hK
               obtain ⟨_, e73, rfl⟩ := hd 0 73 (by kernel_rfl) (by kernel_rfl)
               exact st_if (wanted_none rfl) (st_move (.inl rfl) (ev e73) (hK _ _ rfl (Below.refl _ _)))
             · intro a w hb hd hn K hK
               obtain ⟨_, eg, rfl⟩ := hd 1 74 (by kernel_rfl) (by kernel_rfl)
               exact st_if (wanted_at rfl (by kernel_rfl) eg) (st_move (.inl rfl) (ev ((hn 5 (by kernel_rfl)).trans rfl)) (hK _ _ rfl (Below.refl _ _)))
             · intro a w hb hd hn K hK
               obtain ⟨_, eg, rfl⟩ := hd 1 74 (by kernel_rfl) (by kernel_rfl)
               obtain ⟨_, e75, rfl⟩ := hd 2 75 (by kernel_rfl) (by kernel_rfl)
               refine st_if (wanted_at rfl (by kernel_rfl) eg) (st_call (vs := #[.pointer (some ⟨F.s, 0, none⟩)]) (R := fun v w' => (v = .pointer (some ⟨F.g, 0, none⟩)) ∧ Below w.heap.size w w') Tryz.func25 (by kernel_rfl) (by kernel_rfl) rfl (by simp only [List.map_toArray, List.map_cons, List.map_nil, (ev e75)]) ?_ (fun v w' h => hK v w' h.1 h.2))
               have hh := HP.out.below hb
               refine hh.seg_.mono ?_
               rintro e w' ⟨rfl, rfl⟩
               exact ⟨_, rfl, rfl, Below.refl _ _⟩
             · intro a w hb hd hn K hK
               obtain ⟨_, eg, rfl⟩ := hd 1 74 (by kernel_rfl) (by kernel_rfl)
               exact st_if (wanted_at rfl (by kernel_rfl) eg) (st_move (.inl rfl) (ev ((hn 7 (by kernel_rfl)).trans rfl)) (hK _ _ rfl (Below.refl _ _)))
             · intro a w hb hd hn K hK
               obtain ⟨_, eg, rfl⟩ := hd 1 74 (by kernel_rfl) (by kernel_rfl)
               obtain ⟨_, e76, rfl⟩ := hd 3 76 (by kernel_rfl) (by kernel_rfl)
               obtain ⟨_, e77, rfl⟩ := hd 4 77 (by kernel_rfl) (by kernel_rfl)
               refine st_if (wanted_at rfl (by kernel_rfl) eg) (st_call (vs := #[.pointer (some ⟨F.g, 0, none⟩), .int .i64 z]) (R := fun v w' => (v = .int .u8 3) ∧ Below w.heap.size w w') Tryz.func26 (by kernel_rfl) (by kernel_rfl) rfl (by simp only [List.map_toArray, List.map_cons, List.map_nil, (ev e76), (ev e77)]) ?_ (fun v w' h => hK v w' h.1 h.2))
               have hh := HP.out.below hb
               refine (hh.state_ z).mono ?_
               rintro e w' ⟨rfl, rfl⟩
               exact ⟨_, rfl, by rw [HZ3.out], Below.refl _ _⟩
             · intro a w hb hd hn K hK
               obtain ⟨_, eg, rfl⟩ := hd 1 74 (by kernel_rfl) (by kernel_rfl)
               obtain ⟨_, e78, rfl⟩ := hd 5 78 (by kernel_rfl) (by kernel_rfl)
               exact st_if (wanted_at rfl (by kernel_rfl) eg) (st_op rfl (ev e78) rfl (by go_simp) (hK _ _ rfl (Below.refl _ _)))
             · intro a w hb hd hn K hK
               obtain ⟨_, e74, rfl⟩ := hd 1 74 (by kernel_rfl) (by kernel_rfl)
               obtain ⟨_, e79, rfl⟩ := hd 6 79 (by kernel_rfl) (by kernel_rfl)
               exact st_if (wanted_none rfl) (st_pick rfl (ev e74) (by first | rfl | exact (ev e79)) (hK _ _ rfl (Below.refl _ _)))
             · intro a w hb hd hn K hK
               obtain ⟨_, e80, rfl⟩ := hd 7 80 (by kernel_rfl) (by kernel_rfl)
               exact st_if (wanted_none rfl) (st_move (.inl rfl) (ev e80) (hK _ _ rfl (Below.refl _ _)))
             · intro a w hb hd hn K hK
               obtain ⟨_, eg, rfl⟩ := hd 8 81 (by kernel_rfl) (by kernel_rfl)
               exact st_if (wanted_at rfl (by kernel_rfl) eg) (st_move (.inl rfl) (ev ((hn 5 (by kernel_rfl)).trans rfl)) (hK _ _ rfl (Below.refl _ _)))
             · intro a w hb hd hn K hK
               obtain ⟨_, eg, rfl⟩ := hd 8 81 (by kernel_rfl) (by kernel_rfl)
               obtain ⟨_, e82, rfl⟩ := hd 9 82 (by kernel_rfl) (by kernel_rfl)
               refine st_if (wanted_at rfl (by kernel_rfl) eg) (st_call (vs := #[.pointer (some ⟨F.s, 0, none⟩)]) (R := fun v w' => (v = .pointer (some ⟨F.f.g, 0, none⟩)) ∧ Below w.heap.size w w') Tryz.func21 (by kernel_rfl) (by kernel_rfl) rfl (by simp only [List.map_toArray, List.map_cons, List.map_nil, (ev e82)]) ?_ (fun v w' h => hK v w' h.1 h.2))
               have hh := HP.out.below hb
               refine hh.map_.mono ?_
               rintro e w' ⟨rfl, rfl⟩
               exact ⟨_, rfl, rfl, Below.refl _ _⟩
             · intro a w hb hd hn K hK
               obtain ⟨_, eg, rfl⟩ := hd 8 81 (by kernel_rfl) (by kernel_rfl)
               exact st_if (wanted_at rfl (by kernel_rfl) eg) (st_move (.inl rfl) (ev ((hn 7 (by kernel_rfl)).trans rfl)) (hK _ _ rfl (Below.refl _ _)))
             · intro a w hb hd hn K hK
               obtain ⟨_, eg, rfl⟩ := hd 8 81 (by kernel_rfl) (by kernel_rfl)
               obtain ⟨_, e83, rfl⟩ := hd 10 83 (by kernel_rfl) (by kernel_rfl)
               obtain ⟨_, e84, rfl⟩ := hd 11 84 (by kernel_rfl) (by kernel_rfl)
               refine st_if (wanted_at rfl (by kernel_rfl) eg) (st_call (vs := #[.pointer (some ⟨F.f.g, 0, none⟩), .int .i64 z]) (R := fun v w' => (∃ A c, v = .slice A (liveM m (z)) c) ∧ Below w.heap.size w w') Tryz.func29 (by kernel_rfl) (by kernel_rfl) rfl (by simp only [List.map_toArray, List.map_cons, List.map_nil, (ev e83), (ev e84)]) ?_ (fun v w' h => hK v w' h.1 h.2))
               have hh := HP.out.below hb
               refine (hh.in_ (z)).mono ?_
               rintro e w' ⟨A, c, rfl, _, hw'⟩
               exact ⟨_, rfl, ⟨A, c, rfl⟩, hw'⟩
             · intro a w hb hd hn K hK
               obtain ⟨_, eg, rfl⟩ := hd 8 81 (by kernel_rfl) (by kernel_rfl)
               obtain ⟨_, e85, ⟨A12, c12, rfl⟩⟩ := hd 12 85 (by kernel_rfl) (by kernel_rfl)
               exact st_if (wanted_at rfl (by kernel_rfl) eg) (st_len rfl (ev e85) (by go_simp; try rfl) (hK _ _ rfl (Below.refl _ _)))
             · intro a w hb hd hn K hK
               obtain ⟨_, eg, rfl⟩ := hd 8 81 (by kernel_rfl) (by kernel_rfl)
               exact st_if (wanted_at rfl (by kernel_rfl) eg) (st_field rfl (ev ((hn 2 (by kernel_rfl)).trans rfl)) (by go_simp; try rfl) (hK _ _ rfl (Below.refl _ _)))
             · intro a w hb hd hn K hK
               obtain ⟨_, eg, rfl⟩ := hd 8 81 (by kernel_rfl) (by kernel_rfl)
               obtain ⟨_, e87, rfl⟩ := hd 14 87 (by kernel_rfl) (by kernel_rfl)
               have hc := below_keep hb b1
               exact st_if (wanted_at rfl (by kernel_rfl) eg) (st_load rfl (ev e87) (by go_simp) (hK _ _ rfl (Below.refl _ _)))
             · intro a w hb hd hn K hK
               obtain ⟨_, eg, rfl⟩ := hd 8 81 (by kernel_rfl) (by kernel_rfl)
               obtain ⟨_, e88, rfl⟩ := hd 15 88 (by kernel_rfl) (by kernel_rfl)
               exact st_if (wanted_at rfl (by kernel_rfl) eg) (st_op rfl (ev e88) rfl (by go_simp; try rfl) (hK _ _ rfl (Below.refl _ _)))
             · intro a w hb hd hn K hK
               obtain ⟨_, eg, rfl⟩ := hd 8 81 (by kernel_rfl) (by kernel_rfl)
               obtain ⟨_, e86, rfl⟩ := hd 13 86 (by kernel_rfl) (by kernel_rfl)
               obtain ⟨_, e89, rfl⟩ := hd 16 89 (by kernel_rfl) (by kernel_rfl)
               exact st_if (wanted_at rfl (by kernel_rfl) eg) (st_op rfl (ev e86) (ev e89) (by go_simp) (hK _ _ rfl (Below.refl _ _)))
             · intro a w hb hd hn K hK
               obtain ⟨_, e81, rfl⟩ := hd 8 81 (by kernel_rfl) (by kernel_rfl)
               obtain ⟨_, e90, rfl⟩ := hd 17 90 (by kernel_rfl) (by kernel_rfl)
               exact st_if (wanted_none rfl) (st_pick rfl (ev e81) (by first | rfl | exact (ev e90)) (hK _ _ rfl (Below.refl _ _)))
             · intro a w hb hd hn K hK
               obtain ⟨_, e91, rfl⟩ := hd 18 91 (by kernel_rfl) (by kernel_rfl)
               exact st_if (wanted_none rfl) (st_move (.inr rfl) (ev e91) (hK _ _ rfl (Below.refl _ _)))
            case fin =>
             intro vs a w' ha hb hR hn ho hs hd
             have h4 : a.tmps[4]? = some (.bool true) := (hn 19 4 (by kernel_rfl)).trans (congrArg some (hR 19 (by decide)))
             have HB6 := Lib.hid (HE.out.trans (hb.mono HE.out.size))
             obtain ⟨tm, df⟩ := a
             have hd' : df = [] := hd
             subst hd'
             clear ha hR hn ho hs hd hb
             go_wp2
             go_ret
             refine ⟨congrArg Ending.returned ?_, HB6.out⟩
             rw [Array.getD_eq_getD_getElem?, h4]
             rfl
      | succ j =>
        have hjl : j < (fullM m).length := by omega
        have hji : ((j + 1 : Nat) : Int) - 1 = (j : Int) := by omega
        rw [hji]
        obtain ⟨ad, rfl, hc6⟩ := HF.out j hjl
        have hc0 := below_keep hr.out.2 hc6
        have HP := Lib.hid hr.out.1
        have b1 : wr.cell? ⟨w.heap.size, 1, none⟩ = some (.int .i64 sh.zb) := (HSH.out.below hr.out.1.low HSH.out.lt).cell 1
        have HLW := Lib.hid hr.out.2
        have HEM := Lib.hid (And.intro (emF_at hjl) (fwF_at (sh := sh) hjl))
        have hjk : (j : Int) < (fullM m).length := by omega
        have hlv := (hr.out.1.live_le ((fullM m).getD j 0)).1
        have hjw : IntKind.i64.wrap ((j : Int) - 1) = (j : Int) - 1 := by rw [IntKind.wrap_i64]; omega
        have HFW : Hid (fewM sh m ((fullM m).getD j 0) = decide (liveM m ((fullM m).getD j 0) <= sh.zb / 2)) := rfl
        clear hr hc6
        go_wp2_with (fail)
        refine wp_region_rel (fun i v w => match i with | 0 => (v = .pointer (some ⟨F.s, 0, none⟩)) | 1 => (v = .pointer (some ⟨F.f.g, 0, none⟩)) | 2 => (v = .slice (some ad) (fullM m).length c5) | 3 => (v = .int .i64 (j : Int)) | 4 => (v = .pointer (some (ad.add j))) | 5 => (v = .int .i64 ((fullM m).getD j 0)) | 6 => (∃ A c, v = .slice A (liveM m ((fullM m).getD j 0)) c) | 7 => (v = .int .i64 (liveM m ((fullM m).getD j 0) : Nat)) | 8 => (v = .int .i64 (liveM m ((fullM m).getD j 0) : Nat)) | _ => False) (by kernel_rfl) (by kernel_rfl) ?st ?op ?fin
        case st =>
         intro i v w w' h hb
         match i, h with
         | 0, h => exact h
         | 1, h => exact h
         | 2, h => exact h
         | 3, h => exact h
         | 4, h => exact h
         | 5, h => exact h
         | 6, h => exact h
         | 7, h => exact h
         | 8, h => exact h
         | _ + 9, h => exact h.elim
        case op =>
         refine ⟨?_, ?_, ?_, ?_, ?_, ?_, ?_, ?_, ?_, trivial⟩
         · intro a w hb hd hn K hK
           exact st_if (wanted_none rfl) (st_move (.inl rfl) (ev ((hn 5 (by kernel_rfl)).trans rfl)) (hK _ _ rfl (Below.refl _ _)))
         · intro a w hb hd hn K hK
           obtain ⟨_, e42, rfl⟩ := hd 0 42 (by kernel_rfl) (by kernel_rfl)
           refine st_if (wanted_none rfl) (st_call (vs := #[.pointer (some ⟨F.s, 0, none⟩)]) (R := fun v w' => (v = .pointer (some ⟨F.f.g, 0, none⟩)) ∧ Below w.heap.size w w') Tryz.func21 (by kernel_rfl) (by kernel_rfl) rfl (by simp only [List.map_toArray, List.map_cons, List.map_nil, (ev e42)]) ?_ (fun v w' h => hK v w' h.1 h.2))
           have hh := HP.out.below hb
           refine hh.map_.mono ?_
           rintro e w' ⟨rfl, rfl⟩
           exact ⟨_, rfl, rfl, Below.refl _ _⟩
         · intro a w hb hd hn K hK
           exact st_if (wanted_none rfl) (st_move (.inl rfl) (ev ((hn 8 (by kernel_rfl)).trans rfl)) (hK _ _ rfl (Below.refl _ _)))
         · intro a w hb hd hn K hK
           exact st_if (wanted_none rfl) (st_move (.inl rfl) (ev ((hn 11 (by kernel_rfl)).trans rfl)) (hK _ _ rfl (Below.refl _ _)))
         · intro a w hb hd hn K hK
           obtain ⟨_, e44, rfl⟩ := hd 2 44 (by kernel_rfl) (by kernel_rfl)
           obtain ⟨_, e45, rfl⟩ := hd 3 45 (by kernel_rfl) (by kernel_rfl)
           exact st_if (wanted_none rfl) (st_index rfl (ev e44) (ev e45) (by go_simp; try rfl) (hK _ _ rfl (Below.refl _ _)))
         · intro a w hb hd hn K hK
           obtain ⟨_, e46, rfl⟩ := hd 4 46 (by kernel_rfl) (by kernel_rfl)
           have hc := below_keep hb hc0
           exact st_if (wanted_none rfl) (st_load rfl (ev e46) (by go_simp) (hK _ _ rfl (Below.refl _ _)))
         · intro a w hb hd hn K hK
           obtain ⟨_, e43, rfl⟩ := hd 1 43 (by kernel_rfl) (by kernel_rfl)
           obtain ⟨_, e47, rfl⟩ := hd 5 47 (by kernel_rfl) (by kernel_rfl)
           refine st_if (wanted_none rfl) (st_call (vs := #[.pointer (some ⟨F.f.g, 0, none⟩), .int .i64 ((fullM m).getD j 0)]) (R := fun v w' => (∃ A c, v = .slice A (liveM m ((fullM m).getD j 0)) c) ∧ Below w.heap.size w w') Tryz.func29 (by kernel_rfl) (by kernel_rfl) rfl (by simp only [List.map_toArray, List.map_cons, List.map_nil, (ev e43), (ev e47)]) ?_ (fun v w' h => hK v w' h.1 h.2))
           have hh := HP.out.below hb
           refine (hh.in_ ((fullM m).getD j 0)).mono ?_
           rintro e w' ⟨A, c, rfl, _, hw'⟩
           exact ⟨_, rfl, ⟨A, c, rfl⟩, hw'⟩
         · intro a w hb hd hn K hK
           obtain ⟨_, e48, ⟨A6, c6, rfl⟩⟩ := hd 6 48 (by kernel_rfl) (by kernel_rfl)
           exact st_if (wanted_none rfl) (st_len rfl (ev e48) (by go_simp; try rfl) (hK _ _ rfl (Below.refl _ _)))
         · intro a w hb hd hn K hK
           obtain ⟨_, e49, rfl⟩ := hd 7 49 (by kernel_rfl) (by kernel_rfl)
           exact st_if (wanted_none rfl) (st_move (.inr rfl) (ev e49) (hK _ _ rfl (Below.refl _ _)))
        case fin =>
         intro vs a w' ha hb hR hx1 hx2 hx3 hx4
         rw [partA_fold, show pairsOf _ _ _ = [(42, 0), (43, 1), (44, 2), (45, 3), (46, 4), (47, 5), (48, 6), (49, 7), (12, 8)] from by kernel_rfl] at ha
         have q0 : vs 0 = .pointer (some ⟨F.s, 0, none⟩) := hR 0 (by decide)
         have q1 : vs 1 = .pointer (some ⟨F.f.g, 0, none⟩) := hR 1 (by decide)
         have q2 : vs 2 = .slice (some ad) (fullM m).length c5 := hR 2 (by decide)
         have q3 : vs 3 = .int .i64 (j : Int) := hR 3 (by decide)
         have q4 : vs 4 = .pointer (some (ad.add j)) := hR 4 (by decide)
         have q5 : vs 5 = .int .i64 ((fullM m).getD j 0) := hR 5 (by decide)
         obtain ⟨A6, c6, q6⟩ := hR 6 (by decide)
         have q7 : vs 7 = .int .i64 (liveM m ((fullM m).getD j 0) : Nat) := hR 7 (by decide)
         have q8 : vs 8 = .int .i64 (liveM m ((fullM m).getD j 0) : Nat) := hR 8 (by decide)
         simp only [List.foldl_cons, List.foldl_nil, q0, q1, q2, q3, q4, q5, q6, q7, q8] at ha
         subst ha
         clear hR hx1 hx2 hx3 hx4 q0 q1 q2 q3 q4 q5 q6 q7 q8
         have hc1 := below_keep hb hc0
         have b2 := below_keep hb b1
         have HN : Hid (ClP w3 w' F sh (150 * l.length) m ∧ Below w6.heap.size w6 w') := ⟨HP.out.below hb, HLW.out.trans (hb.mono HLW.out.size)⟩
         clear hb hc0 b1 HP HLW
         obtain ⟨x, hx⟩ : ∃ x, (fullM m).getD j 0 = x := ⟨_, rfl⟩
         rw [hx] at HEM HFW hc1 hlv ⊢
         obtain ⟨e1, f1⟩ := HEM.out
         rw [HFW.out] at f1
         obtain ⟨lv, hlv'⟩ : ∃ lv, liveM m x = lv := ⟨_, rfl⟩
         rw [hlv'] at e1 f1 hlv ⊢
         have hqw : IntKind.i64.wrap ((sh.zb : Int) / 2) = (sh.zb : Int) / 2 := by rw [IntKind.wrap_i64]; omega
         obtain ⟨em, hem⟩ : ∃ em, emF m (j + 1) = em := ⟨_, rfl⟩
         obtain ⟨fw, hfw⟩ : ∃ fw, fwF sh m (j + 1) = fw := ⟨_, rfl⟩
         rw [hem] at e1 ⊢
         rw [hfw] at f1 ⊢
         have HEF := Lib.hid (And.intro e1 f1)
         clear hx HEM HFW hlv' e1 f1 hem hfw
         go_simp
         by_cases h0 : lv = 0
         · subst h0
           have h02 : (0 : Int) <= (sh.zb : Int) / 2 := by omega
           have HA : Hid (emF m j = x ∧ fwF sh m j = true) := ⟨HEF.out.1.trans (if_pos rfl), by rw [HEF.out.2]; simp⟩
           clear HEF
           cases fw
           all_goals
            go_wp2_with (fail)
            go_roundw
            case rel => exact ⟨j, by omega, by rw [HA.out.1], by rw [HA.out.2], rfl, HN⟩
            case measure => simp [intOf]
         · have h0' : ¬ ((lv : Nat) : Int) = 0 := by omega
           cases fw with
           | true =>
             have HA : Hid (emF m j = em ∧ fwF sh m j = true) := ⟨HEF.out.1.trans (if_neg h0), by rw [HEF.out.2, Bool.or_true]⟩
             clear HEF
             go_wp2_with (fail)
             go_roundw
             case rel => exact ⟨j, by omega, by rw [HA.out.1], by rw [HA.out.2], rfl, HN⟩
             case measure => simp [intOf]
           | false =>
             by_cases hl : lv <= sh.zb / 2
             · have hl2 : ((lv : Nat) : Int) <= (sh.zb : Int) / 2 := by omega
               have HA : Hid (emF m j = em ∧ fwF sh m j = true) := ⟨HEF.out.1.trans (if_neg h0), by rw [HEF.out.2, decide_eq_true hl]; rfl⟩
               clear HEF
               go_wp2_with (fail)
               go_roundw
               case rel => exact ⟨j, by omega, by rw [HA.out.1], by rw [HA.out.2], rfl, HN⟩
               case measure => simp [intOf]
             · have hl2 : ¬ ((lv : Nat) : Int) <= (sh.zb : Int) / 2 := by omega
               have HA : Hid (emF m j = em ∧ fwF sh m j = false) := ⟨HEF.out.1.trans (if_neg h0), by rw [HEF.out.2, decide_eq_false hl]; rfl⟩
               clear HEF
               go_wp2_with (fail)
               go_roundw
               case rel => exact ⟨j, by omega, by rw [HA.out.1], by rw [HA.out.2], rfl, HN⟩
               case measure => simp [intOf]
end Go.Proofs.YtfabgbmbnmbjkaaGreatDoor
