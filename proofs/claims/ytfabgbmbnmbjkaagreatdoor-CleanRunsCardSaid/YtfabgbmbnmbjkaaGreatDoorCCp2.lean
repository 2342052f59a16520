/- Pruned. -/
import Derived.Test.YtfabgbmbnmbjkaaGreatDoorRbt
namespace Go.Proofs.YtfabgbmbnmbjkaaGreatDoor
open Go.RowKit
set_option maxRecDepth 20000
theorem ClS.run {w1 wr : World} {F : StF} {Q : QF} {sh : Sh} {n nq : Nat} {m : StM} (h : ClS w1 wr F Q sh n nq m) (hz : sh.z <= 12) (hzb : sh.zb <= 16) (hn : n + 3840 <= 100000) : Calls Tryz.prog 35 #[.pointer (some ⟨F.s, 0, none⟩)] wr (fun e w' => e = .returned (.int .i64 ((runL sh (4 * sh.z) m).1 : Int)) ∧ ClM w1 w' F Q sh (n + 3840) nq (runL sh (4 * sh.z) m).2 m) := by
 obtain ⟨Ya, h1, h2, h3⟩ := h.st
 refine (crun_any _ wr F sh n m h.inv h1.a hz hzb hn).mono ?_
 rintro e w' ⟨rfl, hs, hk⟩
 refine ⟨rfl, ⟨_, h1.onA hk hs, fun b hy => ?_, h3⟩, h.inv.run h1.a.dev.ok _, h.inv, Kp.below h.low hk h.low.size (fun b hb e => e ⟨Nat.lt_of_lt_of_le hb h.low.size, fun hy => by have := h2 b hy; omega⟩)⟩
 rcases hy with hy | hy
 · exact h2 b hy
 · exact Nat.le_trans h.low.size hy.1
theorem ClM.rrun {w1 wr : World} {F : StF} {Q : QF} {sh : Sh} {n nq : Nat} {m : StM} (h : ClM w1 wr F Q sh n nq (runL sh (4 * sh.z) m).2 m) (hnm : ∀ p ∈ m.L, NameOk p.n) (hz : sh.z <= 12) (hzb : sh.zb <= 16) (hn : nq + 768 <= 100000) : Calls Tryz.prog 36 #[.pointer (some ⟨Q.r, 0, none⟩)] wr (fun e w' => e = .returned (.int .i64 ((runL sh (4 * sh.z) m).1 : Int)) ∧ ClS w1 w' F Q sh n (nq + 768) (runL sh (4 * sh.z) m).2) := by
 obtain ⟨Ya, h1, h2, h3⟩ := h.st
 refine (refrun_any _ wr Q sh nq m h.invq hnm h1.q hz hzb hn).mono ?_
 rintro e w' ⟨rfl, hs, hk⟩
 exact ⟨rfl, ⟨Ya, h1.onB hk hs, h2, h3⟩, h.inv, Kp.below h.low hk h.low.size (fun b hb e => by have := h3 b e; omega)⟩
set_option maxHeartbeats 4000000 in
theorem cruns_law (w : World) (z zb bl rs : Int) (hz : -9223372036854775808 <= z ∧ z <= 9223372036854775807) (hb : -9223372036854775808 <= bl ∧ bl <= 9223372036854775807) (A : Option Addr) (c : Nat) (l : List Opv) (_hc : l.length <= c) (hp : SOpsAt (fun b => b < w.heap.size) w A l) (hv : ∀ o ∈ l, OpIn o) :
    Calls Tryz.prog 9 #[.agg #[.int .i64 z, .int .i64 zb, .int .i64 bl, .int .i64 rs], .slice A l.length c] w (Makes (.bool true) w) := by
 have HK := Lib.hid (fun u => cknown_any u)
 have HSB := Lib.hid (Blk.new w 23 #[.int .i64 z, .int .i64 zb, .int .i64 bl, .int .i64 rs])
 have HBW : Hid (Below w.heap.size w (w.alloc (.cells #[.int .i64 z, .int .i64 zb, .int .i64 bl, .int .i64 rs] 23))) := (Below.refl _ _).alloc (Nat.le_refl _) _
 have HP := Lib.hid (hp.below HBW.out)
 have HH := Lib.hid (heavys_any _ (w.alloc (.cells #[.int .i64 z, .int .i64 zb, .int .i64 bl, .int .i64 rs] 23)) z zb bl rs A c l HP.out)
 have HBO := Lib.hid (fun u (hu : Below (w.alloc (.cells #[.int .i64 z, .int .i64 zb, .int .i64 bl, .int .i64 rs] 23)).heap.size (w.alloc (.cells #[.int .i64 z, .int .i64 zb, .int .i64 bl, .int .i64 rs] 23)) u) (hh : heavysM z zb bl l = false) => both_any u z zb bl rs hz hb (fun b => b < w.heap.size) (fun b hb => Nat.lt_of_lt_of_le hb (Nat.le_trans HBW.out.size hu.size)) A c l (HP.out.below hu) hv hh)
 clear hp hv hz hb _hc HP
 go_enter Tryz.func9, Tryz.ntmps9
 cases hh : heavysM z zb bl l with
 | true =>
   rw [hh] at HH
   simp only [if_true] at HH
   clear hh HBO
   go_wp2_with (fail)
   refine HH.out.mono ?_
   rintro e w2 ⟨rfl, hb2⟩
   have HB2 := Lib.hid (HBW.out.trans (hb2.mono HBW.out.size))
   clear hb2
   go_wp2_with (fail)
   refine (HK.out _).mono ?_
   rintro e w3 ⟨rfl, hb3⟩
   have HB3 := Lib.hid (HB2.out.trans (hb3.mono HB2.out.size))
   clear hb3
   go_wp2
   go_ret
   exact ⟨rfl, HB3.out⟩
 | false =>
   rw [hh] at HH
   simp only [Bool.false_eq_true, if_false] at HH
   have HHV := Lib.hid hh
   clear hh
   go_wp2_with (fail)
   obtain ⟨w1, hw1⟩ : ∃ w1, w.alloc (.cells #[.int .i64 z, .int .i64 zb, .int .i64 bl, .int .i64 rs] 23) = w1 := ⟨_, rfl⟩
   rw [hw1] at HSB HBW HH HBO ⊢
   clear hw1
   refine HH.out.mono ?_
   rintro e w2 ⟨rfl, hb2⟩
   have HB2 := Lib.hid hb2
   clear hb2 HH
   go_wp2_with (fail)
   refine (HK.out _).mono ?_
   rintro e w3 ⟨rfl, hb3⟩
   have HB13 : Hid (Below w1.heap.size w1 w3) := HB2.out.trans (hb3.mono HB2.out.size)
   have HB3 : Hid (Below w.heap.size w w3) := HBW.out.trans (HB13.out.mono HBW.out.size)
   have hsb := HSB.out.below HB13.out HSB.out.lt
   have s0 : w3.cell? ⟨w.heap.size, 0, none⟩ = some (.int .i64 z) := hsb.cell 0
   have s1 : w3.cell? ⟨w.heap.size, 1, none⟩ = some (.int .i64 zb) := hsb.cell 1
   have s2 : w3.cell? ⟨w.heap.size, 2, none⟩ = some (.int .i64 bl) := hsb.cell 2
   have s3 : w3.cell? ⟨w.heap.size, 3, none⟩ = some (.int .i64 rs) := hsb.cell 3
   have HBX := Lib.hid (HBO.out w3 HB13.out HHV.out)
   have HS3 := Lib.hid hsb
   unfold BothR at HBX
   clear hb3 hsb HB2 HK HBO HSB
   go_wp2_with (fail)
   refine HBX.out.mono ?_
   rintro e w4 ⟨hb4, ⟨hr, rfl⟩ | ⟨hr, F, Q, sh, m, rfl, rfl, rfl, rfl, rfl, hd⟩⟩
   · clear s0 s1 s2 s3 HBX HB13 HS3
     have HE : Hid (Below w.heap.size w w4) := HB3.out.trans (hb4.mono HB3.out.size)
     clear hb4 hr
     go_wp2
     go_ret
     exact ⟨rfl, HE.out⟩
   · have hsm := heavys_small HHV.out
     have hl4 := (heavys_false HHV.out).2.1
     have HC : Hid (ClS w w4 F Q sh (150 * l.length) (30 * l.length) m) := (hd.base HB3.out).cl
     have HBOX : Hid (ClP w3 w4 F sh (150 * l.length) m ∧ Blk w3 w.heap.size 23 #[.int .i64 sh.z, .int .i64 sh.zb, .int .i64 sh.bl, .int .i64 sh.rs]) := ⟨hd.cl.p, HS3.out⟩
     clear s0 s1 s2 s3 HBX HB13 HS3 hd hr hb4
     have hz12 : sh.z <= 12 := by omega
     have hzb16 : sh.zb <= 16 := by omega
     have HRU := Lib.hid (HC.out.run hz12 hzb16 (by omega))
     have HNM := Lib.hid HC.out.names
     clear HC HBOX
     go_wp2_with (fail)
     refine HRU.out.mono ?_
     rintro e w5 ⟨rfl, h5⟩
     have HR5 := Lib.hid (h5.rrun HNM.out hz12 hzb16 (by omega))
     clear h5 HRU
     go_wp2_with (fail)
     refine HR5.out.mono ?_
     rintro e w6 ⟨rfl, h6⟩
     have HS6 := Lib.hid h6.same
     clear h6 HR5
     go_wp2_with (fail)
     refine HS6.out.mono ?_
     rintro e w7 ⟨rfl, h7⟩
     have HE := Lib.hid h7.low
     clear h7
     go_wp2
     go_ret
     exact ⟨rfl, HE.out⟩
end Go.Proofs.YtfabgbmbnmbjkaaGreatDoor
