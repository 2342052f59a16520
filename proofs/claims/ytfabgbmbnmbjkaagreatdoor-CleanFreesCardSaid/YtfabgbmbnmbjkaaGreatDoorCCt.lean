/- Pruned. -/
import Derived.Test.YtfabgbmbnmbjkaaGreatDoorAbt
namespace Go.Proofs.YtfabgbmbnmbjkaaGreatDoor
open Go.RowKit
set_option maxRecDepth 20000
theorem pick_full {sh : Sh} {m : StM} (h : 0 <= pickM sh m) : stateAt m.G (pickM sh m) = 3 := by
 unfold pickM at h ⊢
 cases he : emptyM m with
 | some z =>
   rw [he] at h
   simp only
   exact (fullM_mem m z).1 (List.mem_of_find?_eq_some he)
 | none =>
   rw [he] at h
   simp only at h ⊢
   rcases Sco.rbest_is (worthsM sh m) sh.z with ⟨h1, _⟩ | ⟨k, h1, h2, h3, _⟩
   · omega
   · rw [h1]
     rw [worthsM_get _ _ _ h2] at h3
     unfold worthAt at h3
     split at h3
     · rename_i hc; exact hc.1
     · rw [nanW_nan] at h3; cases h3
theorem flushP_du (P : List Part) (i : Nat) : ((flushP P).getD i pt0).du = ((flushP P).getD i pt0).bs.length := by
 unfold flushP
 rw [List.getD_eq_getElem?_getD, List.getElem?_map]
 cases P[i]? <;> rfl
theorem stepM_true {sh : Sh} {m : StM} (h : (stepM sh m).1 = true) : 0 <= pickM sh m ∧ ∃ m3 : StM, (stepM sh m).2 = clearS m3 (pickM sh m) ∧ clearB m3 (pickM sh m) ∧ ∀ i, (m3.P.getD i pt0).du = (m3.P.getD i pt0).bs.length := by
 unfold stepM at h ⊢
 split at h
 · cases h
 · rename_i hz
   rw [if_neg hz]
   split at h
   · cases h
   · rename_i h1
     rw [if_neg h1]
     split at h
     · cases h
     · rename_i h2
       rw [if_neg h2]
       refine ⟨by omega, (markM sh (flushM (putM sh m (putsOf m (inM m (pickM sh m)))).2)).2, ?_, ?_, fun i => ?_⟩
       · unfold clearM at h ⊢
         split at h
         · rename_i hc; rw [if_pos hc]
         · cases h
       · unfold clearM at h
         split at h
         · assumption
         · cases h
       · unfold markM at h2 ⊢
         split at h2
         · rename_i hb
           rw [if_pos hb]
           exact flushP_du _ _
         · exact absurd (show (140 : Int) ≠ 0 by decide) h2
section
variable {w1 wr : World} {F : StF} {sh : Sh} {n : Nat} {m : StM}
theorem ClP.dev_ (h : ClP w1 wr F sh n m) : Calls Tryz.prog 27 #[.pointer (some ⟨F.s, 0, none⟩)] wr (fun e w' => e = .returned (.pointer (some ⟨F.d, 0, none⟩)) ∧ wr = w') := by
 obtain ⟨X, h1, h2⟩ := h.st
 exact dev_any X wr F sh n m h2
theorem ClP.at_ (h : ClP w1 wr F sh n m) (z : Nat) (hz : z < sh.z) : Calls Tryz.prog 28 #[.pointer (some ⟨F.d, 0, none⟩), .int .i64 z] wr (fun e w' => e = .returned (.tuple #[.int .i64 ((m.P.getD z pt0).bs.length : Nat), .int .i64 ((m.P.getD z pt0).du : Nat)]) ∧ ClP w1 w' F sh n m) := by
 obtain ⟨X, h1, h2⟩ := h.st
 refine (zat_any _ wr F.d sh m.P z (by rw [h2.dev.sz]; exact hz) h2.dev).mono ?_
 rintro e w' ⟨rfl, hb⟩
 exact ⟨rfl, h.below hb⟩
theorem ClP.seg_ (h : ClP w1 wr F sh n m) : Calls Tryz.prog 25 #[.pointer (some ⟨F.s, 0, none⟩)] wr (fun e w' => e = .returned (.pointer (some ⟨F.g, 0, none⟩)) ∧ wr = w') := by
 obtain ⟨X, h1, h2⟩ := h.st
 exact sseg_any X wr F sh n m h2
theorem ClP.state_ (h : ClP w1 wr F sh n m) (z : Int) : Calls Tryz.prog 26 #[.pointer (some ⟨F.g, 0, none⟩), .int .i64 z] wr (fun e w' => e = .returned (.int .u8 (stateAt m.G z)) ∧ wr = w') := by
 obtain ⟨X, h1, h2⟩ := h.st
 exact state_any _ _ _ _ _ z wr h2.seg.1
theorem ClP.last_ (h : ClP w1 wr F sh n m) (z : Int) (hz : intC.ok z) : Calls Tryz.prog 30 #[.pointer (some ⟨F.s, 0, none⟩), .int .i64 z] wr (fun e w' => e = .returned (.int .u64 (lastM m z)) ∧ wr = w') := by
 obtain ⟨X, h1, h2⟩ := h.st
 exact slast_any X wr F sh n m z hz h2
end
set_option maxHeartbeats 4000000 in
theorem cfrees_law (w : World) (z zb bl rs : Int) (hz : -9223372036854775808 <= z ∧ z <= 9223372036854775807) (hb : -9223372036854775808 <= bl ∧ bl <= 9223372036854775807) (A : Option Addr) (c : Nat) (l : List Opv) (_hc : l.length <= c) (hp : SOpsAt (fun b => b < w.heap.size) w A l) (hv : ∀ o ∈ l, OpIn o) :
    Calls Tryz.prog 5 #[.agg #[.int .i64 z, .int .i64 zb, .int .i64 bl, .int .i64 rs], .slice A l.length c] w (Makes (.bool true) w) := by
 have HK := Lib.hid (fun u => cknown_any u)
 have HSB := Lib.hid (Blk.new w 23 #[.int .i64 z, .int .i64 zb, .int .i64 bl, .int .i64 rs])
 have HBW : Hid (Below w.heap.size w (w.alloc (.cells #[.int .i64 z, .int .i64 zb, .int .i64 bl, .int .i64 rs] 23))) := (Below.refl _ _).alloc (Nat.le_refl _) _
 have HP := Lib.hid (hp.below HBW.out)
 have HH := Lib.hid (heavys_any _ (w.alloc (.cells #[.int .i64 z, .int .i64 zb, .int .i64 bl, .int .i64 rs] 23)) z zb bl rs A c l HP.out)
 have HBO := Lib.hid (fun u (hu : Below (w.alloc (.cells #[.int .i64 z, .int .i64 zb, .int .i64 bl, .int .i64 rs] 23)).heap.size (w.alloc (.cells #[.int .i64 z, .int .i64 zb, .int .i64 bl, .int .i64 rs] 23)) u) (hh : heavysM z zb bl l = false) => both_any u z zb bl rs hz hb (fun b => b < w.heap.size) (fun b hb => Nat.lt_of_lt_of_le hb (Nat.le_trans HBW.out.size hu.size)) A c l (HP.out.below hu) hv hh)
 clear hp hv hz hb _hc HP
 go_enter Tryz.func5, Tryz.ntmps5
 cases hh : heavysM z zb bl l with
 | true =>
   rw [hh] at HH
   simp only [if_true] at HH
   clear hh HBO
   go_wp2_with (fail)
   refine HH.out.mono ?_
   rintro e w2 ⟨rfl, hb2⟩
   have HB2 := Lib.hid (HBW.out.trans (hb2.mono HBW.out.size))
   clear hb2
   go_wp2_with (fail)
   refine (HK.out _).mono ?_
   rintro e w3 ⟨rfl, hb3⟩
   have HB3 := Lib.hid (HB2.out.trans (hb3.mono HB2.out.size))
   clear hb3
   go_wp2
   go_ret
   exact ⟨rfl, HB3.out⟩
 | false =>
   rw [hh] at HH
   simp only [Bool.false_eq_true, if_false] at HH
   have HHV := Lib.hid hh
   clear hh
   go_wp2_with (fail)
   obtain ⟨w1, hw1⟩ : ∃ w1, w.alloc (.cells #[.int .i64 z, .int .i64 zb, .int .i64 bl, .int .i64 rs] 23) = w1 := ⟨_, rfl⟩
   rw [hw1] at HSB HBW HH HBO ⊢
   clear hw1
   refine HH.out.mono ?_
   rintro e w2 ⟨rfl, hb2⟩
   have HB2 := Lib.hid hb2
   clear hb2 HH
   go_wp2_with (fail)
   refine (HK.out _).mono ?_
   rintro e w3 ⟨rfl, hb3⟩
   have HB13 : Hid (Below w1.heap.size w1 w3) := HB2.out.trans (hb3.mono HB2.out.size)
   have HB3 : Hid (Below w.heap.size w w3) := HBW.out.trans (HB13.out.mono HBW.out.size)
   have hsb := HSB.out.below HB13.out HSB.out.lt
   have s0 : w3.cell? ⟨w.heap.size, 0, none⟩ = some (.int .i64 z) := hsb.cell 0
   have s1 : w3.cell? ⟨w.heap.size, 1, none⟩ = some (.int .i64 zb) := hsb.cell 1
   have s2 : w3.cell? ⟨w.heap.size, 2, none⟩ = some (.int .i64 bl) := hsb.cell 2
   have s3 : w3.cell? ⟨w.heap.size, 3, none⟩ = some (.int .i64 rs) := hsb.cell 3
   have HBX := Lib.hid (HBO.out w3 HB13.out HHV.out)
   have HS3 := Lib.hid hsb
   unfold BothR at HBX
   clear hb3 hsb HB2 HK HBO HSB
   go_wp2_with (fail)
   refine HBX.out.mono ?_
   rintro e w4 ⟨hb4, ⟨hr, rfl⟩ | ⟨hr, F, Q, sh, m, rfl, rfl, rfl, rfl, rfl, hd⟩⟩
   · clear s0 s1 s2 s3 HBX HB13 HS3
     have HE : Hid (Below w.heap.size w w4) := HB3.out.trans (hb4.mono HB3.out.size)
     clear hb4 hr
     go_wp2
     go_ret
     exact ⟨rfl, HE.out⟩
   · have hsm := heavys_small HHV.out
     have hl4 := (heavys_false HHV.out).2.1
     have HC : Hid (ClS w w4 F Q sh (150 * l.length) (30 * l.length) m) := (hd.base HB3.out).cl
     have HBOX : Hid (ClP w3 w4 F sh (150 * l.length) m ∧ Blk w3 w.heap.size 23 #[.int .i64 sh.z, .int .i64 sh.zb, .int .i64 sh.bl, .int .i64 sh.rs]) := ⟨hd.cl.p, HS3.out⟩
     clear s0 s1 s2 s3 HBX HB13 HS3 hd hr hb4
     have hn9 : 150 * l.length + 5 * sh.zb <= 100000 := by omega
     have HPK := Lib.hid HBOX.out.1.pick
     have HSH := Lib.hid HBOX.out.2
     have hz12 : sh.z <= 12 := by omega
     have HGL := Lib.hid HC.out.inv.g.gl
     clear HC HBOX
     obtain ⟨z, hz⟩ : ∃ z, pickM sh m = z := ⟨_, rfl⟩
     have HZ := Lib.hid hz
     rw [hz] at HPK
     clear hz
     go_wp2_with (fail)
     refine HPK.out.mono ?_
     rintro e w5 ⟨rfl, h5⟩
     have H5 := Lib.hid h5
     clear h5 HPK
     by_cases hz0 : z < 0
     · have hst : (stepM sh m).1 = false := by unfold stepM; rw [HZ.out, if_pos hz0]
       have HST := Lib.hid (H5.out.step hn9)
       rw [hst] at HST
       clear hst
       go_wp2_with (fail)
       refine HST.out.mono ?_
       rintro e w6 ⟨rfl, h6⟩
       have HE : Hid (Below w.heap.size w w6) := HB3.out.trans (h6.low.mono HB3.out.size)
       clear h6 HST
       go_wp2
       go_ret
       exact ⟨rfl, HE.out⟩
     · have hz3 : stateAt m.G z = 3 := by rw [<- HZ.out]; exact pick_full (by rw [HZ.out]; omega)
       have hzi := stateAt_in (z := z) (G := m.G) (by rw [hz3]; decide)
       obtain ⟨zn, rfl⟩ := Int.eq_ofNat_of_zero_le hzi.1
       have hzz : zn < sh.z := by have := HGL.out; omega
       have HSE := Lib.hid (H5.out.state_ (zn : Int))
       rw [hz3] at HSE
       clear hz3 hzi
       go_wp2_with (fail)
       refine H5.out.seg_.mono ?_
       rintro e u ⟨rfl, rfl⟩
       go_wp2_with (fail)
       refine HSE.out.mono ?_
       rintro e u ⟨rfl, rfl⟩
       cases hs : (stepM sh m).1 with
       | false =>
         have HST := Lib.hid (H5.out.step hn9)
         rw [hs] at HST
         clear hs
         go_wp2_with (fail)
         refine HST.out.mono ?_
         rintro e w6 ⟨rfl, h6⟩
         have HE : Hid (Below w.heap.size w w6) := HB3.out.trans (h6.low.mono HB3.out.size)
         clear h6 HST
         go_wp2
         go_ret
         exact ⟨rfl, HE.out⟩
       | true =>
         have HST := Lib.hid (H5.out.step hn9)
         rw [hs] at HST
         obtain ⟨_, m3, hm3, hcb, hdu⟩ := stepM_true hs
         rw [HZ.out] at hm3 hcb
         rw [hm3] at HST
         have HM3 := Lib.hid (And.intro hcb hdu)
         clear hs hm3 hcb hdu H5 HSE
         have HF : Hid (lenM (clearS m3 (zn : Int)) (zn : Int) = 0 ∧ stateAt (clearS m3 (zn : Int)).G (zn : Int) = 1 ∧ liveM (clearS m3 (zn : Int)) (zn : Int) = 0 ∧ lastM (clearS m3 (zn : Int)) (zn : Int) = 0 ∧ ∀ i, ((clearS m3 (zn : Int)).P.getD i pt0).du = ((clearS m3 (zn : Int)).P.getD i pt0).bs.length) := by
          obtain ⟨⟨c1, c2⟩, c3⟩ := HM3.out
          have hset : ∀ i, ((clearS m3 (zn : Int)).P.getD i pt0) = if i = zn ∧ i < m3.P.length then pt0 else m3.P.getD i pt0 := fun i => by
           show (m3.P.set (zn : Int).toNat pt0).getD i pt0 = _
           rw [Int.toNat_natCast, List.getD_eq_getElem?_getD, List.getElem?_set]
           by_cases e : zn = i
           · subst e
             rw [if_pos rfl]
             by_cases h : zn < m3.P.length
             · rw [if_pos h, if_pos ⟨rfl, h⟩]; rfl
             · rw [if_neg h, if_neg (fun e => h e.2), List.getD_eq_getElem?_getD, List.getElem?_eq_none (by omega)]
           · rw [if_neg e, if_neg (fun h => e h.1.symm), List.getD_eq_getElem?_getD]
          refine ⟨?_, ?_, ?_, ?_, fun i => ?_⟩
          · unfold lenM
            rw [Int.toNat_natCast, hset]
            by_cases h : zn < m3.P.length
            · rw [if_pos ⟨rfl, h⟩]; rfl
            · rw [if_neg (fun e => h e.2), List.getD_eq_getElem?_getD, List.getElem?_eq_none (by omega)]; rfl
          · show stateAt (turnL m3.G (zn : Int) 1) (zn : Int) = 1
            rw [stateAt_turn 1 _ (by rw [c1]; decide), if_pos rfl]
          · show (ofZ (zn : Int) m3.L).length = 0
            rw [c2]; rfl
          · show ((if (zn : Int) = (zn : Int) then none else m3.la (zn : Int)) : Option Int).getD 0 = 0
            rw [if_pos rfl]; rfl
          · rw [hset]
            split
            · rfl
            · exact c3 i
         generalize clearS m3 (zn : Int) = m4 at *
         go_wp2_with (fail)
         refine HST.out.mono ?_
         rintro e w6 ⟨rfl, h6⟩
         have H6 := Lib.hid h6
         clear h6 HST HM3
         go_wp2_with (fail)
         refine H6.out.dev_.mono ?_
         rintro e u ⟨rfl, rfl⟩
         have HAT := Lib.hid (H6.out.at_ zn hzz)
         rw [show (m4.P.getD zn pt0).bs.length = 0 from by have := HF.out.1; unfold lenM at this; rw [Int.toNat_natCast] at this; exact this] at HAT
         go_wp2_with (fail)
         refine HAT.out.mono ?_
         rintro e w7 ⟨rfl, h7⟩
         have H7 := Lib.hid h7
         clear h7 HAT H6
         go_wp2_with (fail)
         go_loopw [12] (fun i wr => ∃ k : Nat, k <= sh.z ∧ i = .int .i64 k ∧ Hid (ClP w3 wr F sh (150 * l.length + 5 * sh.zb) m4)) (fun i _ => sh.z - (intOf i).toNat)
         case atStart => exact ⟨0, Nat.zero_le _, rfl, H7⟩
         case round =>
          clear H7
          obtain ⟨k, hk, rfl, hr⟩ := hrel
          have b0 : wr.cell? ⟨w.heap.size, 0, none⟩ = some (.int .i64 sh.z) := (HSH.out.below hr.out.low HSH.out.lt).cell 0
          by_cases hlt : k < sh.z
          · have hki : (k : Int) < sh.z := by omega
            have HAT := Lib.hid (hr.out.at_ k hlt)
            rw [HF.out.2.2.2.2 k] at HAT
            have HDV := Lib.hid hr.out.dev_
            clear hr
            generalize (m4.P.getD k pt0).bs.length = ln at *
            go_wp2_with (fail)
            refine HDV.out.mono ?_
            rintro e u ⟨rfl, rfl⟩
            go_wp2_with (fail)
            refine HAT.out.mono ?_
            rintro e w8 ⟨rfl, h8⟩
            have H8 := Lib.hid h8
            clear h8 HAT HDV b0
            go_wp2_with (fail)
            go_roundw
            case rel => exact ⟨k + 1, hlt, by go_num, H8⟩
            case measure => simp [intOf]; omega
          · obtain rfl : k = sh.z := by omega
            have HR := Lib.hid hr.out
            have HS1 := Lib.hid (hr.out.state_ (zn : Int))
            rw [HF.out.2.1] at HS1
            have HI1 := Lib.hid (hr.out.in_ (zn : Int))
            rw [HF.out.2.2.1] at HI1
            clear hr
            go_wp2_with (fail)
            refine HR.out.seg_.mono ?_
            rintro e u ⟨rfl, rfl⟩
            go_wp2_with (fail)
            refine HS1.out.mono ?_
            rintro e u ⟨rfl, rfl⟩
            go_wp2_with (fail)
            refine HR.out.map_.mono ?_
            rintro e u ⟨rfl, rfl⟩
            go_wp2_with (fail)
            refine HI1.out.mono ?_
            rintro e w9 ⟨A9, c9, rfl, h9, _⟩
            have HL1 := Lib.hid (h9.last_ (zn : Int) ⟨by omega, by omega⟩)
            rw [HF.out.2.2.2.1] at HL1
            have HE : Hid (Below w.heap.size w w9) := HB3.out.trans (h9.low.mono HB3.out.size)
            clear h9 HI1 HS1 HR b0
            go_wp2_with (fail)
            refine HL1.out.mono ?_
            rintro e u ⟨rfl, rfl⟩
            go_wp2
            go_ret
            exact ⟨rfl, HE.out⟩
end Go.Proofs.YtfabgbmbnmbjkaaGreatDoor
