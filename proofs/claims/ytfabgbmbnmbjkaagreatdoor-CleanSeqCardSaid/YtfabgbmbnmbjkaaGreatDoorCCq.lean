/- Pruned. -/
import Derived.Test.YtfabgbmbnmbjkaaGreatDoorAbt
namespace Go.Proofs.YtfabgbmbnmbjkaaGreatDoor
open Go.RowKit
set_option maxRecDepth 20000
theorem clearM_seq (m : StM) (z : Int) : (clearM m z).2.seq = m.seq := by unfold clearM; split <;> rfl
theorem markM_seq (sh : Sh) (m : StM) : (markM sh m).2.seq = m.seq := by unfold markM; split <;> rfl
theorem putM_seq {sh : Sh} (hok : sh.ok) {m : StM} (h : Good sh m) (l : List Pv) : m.seq <= (putM sh m l).2.seq ∧ (putM sh m l).2.seq <= m.seq + l.length := by
 unfold putM
 split
 · have := putL_good hok l.length h (Nat.le_refl _)
   exact ⟨this.2.1, this.2.2.1⟩
 · exact ⟨Int.le_refl _, by simp only; omega⟩
theorem stepM_seq {sh : Sh} (hok : sh.ok) {m : StM} (h : Good sh m) : m.seq <= (stepM sh m).2.seq ∧ (stepM sh m).2.seq <= m.seq + liveM m (pickM sh m) ∧ (pickM sh m < 0 -> (stepM sh m).2.seq = m.seq) := by
 have h1 := putM_seq hok h (putsOf m (inM m (pickM sh m)))
 rw [putsOf_length, inM_length] at h1
 unfold stepM
 split
 · exact ⟨Int.le_refl _, by simp only; omega, fun _ => rfl⟩
 · rename_i hz
   refine ⟨?_, ?_, fun h => absurd h hz⟩
   all_goals
    split
    · simp only; omega
    · split
      · simp only [markM_seq]
        show _
        have e : (flushM (putM sh m (putsOf m (inM m (pickM sh m)))).2).seq = (putM sh m (putsOf m (inM m (pickM sh m)))).2.seq := rfl
        omega
      · rw [clearM_seq, markM_seq]
        have e : (flushM (putM sh m (putsOf m (inM m (pickM sh m)))).2).seq = (putM sh m (putsOf m (inM m (pickM sh m)))).2.seq := rfl
        omega
set_option maxHeartbeats 4000000 in
theorem cseq_law (w : World) (z zb bl rs : Int) (hz : -9223372036854775808 <= z ∧ z <= 9223372036854775807) (hb : -9223372036854775808 <= bl ∧ bl <= 9223372036854775807) (A : Option Addr) (c : Nat) (l : List Opv) (_hc : l.length <= c) (hp : SOpsAt (fun b => b < w.heap.size) w A l) (hv : ∀ o ∈ l, OpIn o) :
    Calls Tryz.prog 7 #[.agg #[.int .i64 z, .int .i64 zb, .int .i64 bl, .int .i64 rs], .slice A l.length c] w (Makes (.bool true) w) := by
 have HK := Lib.hid (fun u => cknown_any u)
 have HSB := Lib.hid (Blk.new w 23 #[.int .i64 z, .int .i64 zb, .int .i64 bl, .int .i64 rs])
 have HBW : Hid (Below w.heap.size w (w.alloc (.cells #[.int .i64 z, .int .i64 zb, .int .i64 bl, .int .i64 rs] 23))) := (Below.refl _ _).alloc (Nat.le_refl _) _
 have HP := Lib.hid (hp.below HBW.out)
 have HH := Lib.hid (heavys_any _ (w.alloc (.cells #[.int .i64 z, .int .i64 zb, .int .i64 bl, .int .i64 rs] 23)) z zb bl rs A c l HP.out)
 have HBO := Lib.hid (fun u (hu : Below (w.alloc (.cells #[.int .i64 z, .int .i64 zb, .int .i64 bl, .int .i64 rs] 23)).heap.size (w.alloc (.cells #[.int .i64 z, .int .i64 zb, .int .i64 bl, .int .i64 rs] 23)) u) (hh : heavysM z zb bl l = false) => both_any u z zb bl rs hz hb (fun b => b < w.heap.size) (fun b hb => Nat.lt_of_lt_of_le hb (Nat.le_trans HBW.out.size hu.size)) A c l (HP.out.below hu) hv hh)
 clear hp hv hz hb _hc HP
 go_enter Tryz.func7, Tryz.ntmps7
 cases hh : heavysM z zb bl l with
 | true =>
   rw [hh] at HH
   simp only [if_true] at HH
   clear hh HBO
   go_wp2_with (fail)
   refine HH.out.mono ?_
   rintro e w2 ⟨rfl, hb2⟩
   have HB2 := Lib.hid (HBW.out.trans (hb2.mono HBW.out.size))
   clear hb2
   go_wp2_with (fail)
   refine (HK.out _).mono ?_
   rintro e w3 ⟨rfl, hb3⟩
   have HB3 := Lib.hid (HB2.out.trans (hb3.mono HB2.out.size))
   clear hb3
   go_wp2
   go_ret
   exact ⟨rfl, HB3.out⟩
 | false =>
   rw [hh] at HH
   simp only [Bool.false_eq_true, if_false] at HH
   have HHV := Lib.hid hh
   clear hh
   go_wp2_with (fail)
   obtain ⟨w1, hw1⟩ : ∃ w1, w.alloc (.cells #[.int .i64 z, .int .i64 zb, .int .i64 bl, .int .i64 rs] 23) = w1 := ⟨_, rfl⟩
   rw [hw1] at HSB HBW HH HBO ⊢
   clear hw1
   refine HH.out.mono ?_
   rintro e w2 ⟨rfl, hb2⟩
   have HB2 := Lib.hid hb2
   clear hb2 HH
   go_wp2_with (fail)
   refine (HK.out _).mono ?_
   rintro e w3 ⟨rfl, hb3⟩
   have HB13 : Hid (Below w1.heap.size w1 w3) := HB2.out.trans (hb3.mono HB2.out.size)
   have HB3 : Hid (Below w.heap.size w w3) := HBW.out.trans (HB13.out.mono HBW.out.size)
   have hsb := HSB.out.below HB13.out HSB.out.lt
   have s0 : w3.cell? ⟨w.heap.size, 0, none⟩ = some (.int .i64 z) := hsb.cell 0
   have s1 : w3.cell? ⟨w.heap.size, 1, none⟩ = some (.int .i64 zb) := hsb.cell 1
   have s2 : w3.cell? ⟨w.heap.size, 2, none⟩ = some (.int .i64 bl) := hsb.cell 2
   have s3 : w3.cell? ⟨w.heap.size, 3, none⟩ = some (.int .i64 rs) := hsb.cell 3
   have HBX := Lib.hid (HBO.out w3 HB13.out HHV.out)
   have HS3 := Lib.hid hsb
   unfold BothR at HBX
   clear hb3 hsb HB2 HK HBO HSB
   go_wp2_with (fail)
   refine HBX.out.mono ?_
   rintro e w4 ⟨hb4, ⟨hr, rfl⟩ | ⟨hr, F, Q, sh, m, rfl, rfl, rfl, rfl, rfl, hd⟩⟩
   · clear s0 s1 s2 s3 HBX HB13 HS3
     have HE : Hid (Below w.heap.size w w4) := HB3.out.trans (hb4.mono HB3.out.size)
     clear hb4 hr
     go_wp2
     go_ret
     exact ⟨rfl, HE.out⟩
   · have hsm := heavys_small HHV.out
     have hl4 := (heavys_false HHV.out).2.1
     have HC : Hid (ClS w w4 F Q sh (150 * l.length) (30 * l.length) m) := (hd.base HB3.out).cl
     have HBOX : Hid (ClP w3 w4 F sh (150 * l.length) m ∧ Blk w3 w.heap.size 23 #[.int .i64 sh.z, .int .i64 sh.zb, .int .i64 sh.bl, .int .i64 sh.rs]) := ⟨hd.cl.p, HS3.out⟩
     clear s0 s1 s2 s3 HBX HB13 HS3 hd hr hb4
     have HP := Lib.hid HC.out.p
     have hn9 : 150 * l.length + 5 * sh.zb <= 100000 := by omega
     have HSQ := Lib.hid (stepM_seq HC.out.p.ok HC.out.inv.g)
     clear HC HBOX
     have HPK := Lib.hid HP.out.pick
     obtain ⟨z, hz⟩ : ∃ z, pickM sh m = z := ⟨_, rfl⟩
     rw [hz] at HPK HSQ
     clear hz HP
     go_wp2_with (fail)
     refine HPK.out.mono ?_
     rintro e w5 ⟨rfl, h5⟩
     have H5 := Lib.hid h5
     clear h5 HPK
     go_wp2_with (fail)
     refine H5.out.map_.mono ?_
     rintro e u ⟨rfl, rfl⟩
     go_wp2_with (fail)
     refine (H5.out.in_ z).mono ?_
     rintro e w6 ⟨A6, c6, rfl, h6, _⟩
     have H6 := Lib.hid h6
     have hlv := h6.live_le z
     have hwl : IntKind.u64.wrap ((liveM m z : Nat) : Int) = liveM m z := by rw [IntKind.wrap_u64]; omega
     clear h6 H5
     go_wp2_with (fail)
     refine H6.out.seq_.mono ?_
     rintro e u ⟨rfl, rfl⟩
     go_wp2_with (fail)
     refine (H6.out.step hn9).mono ?_
     rintro e w7 ⟨rfl, h7⟩
     have H7 := Lib.hid h7
     have h7l := h7.live_le z
     clear h7
     obtain ⟨m2, hm2⟩ : ∃ m2, (stepM sh m).2 = m2 := ⟨_, rfl⟩
     rw [hm2] at H7 HSQ h7l
     clear hm2 H6
     obtain ⟨q1, q2, q3⟩ := HSQ.out
     have hge : m.seq <= m2.seq := q1
     have hws : IntKind.u64.wrap (m2.seq - m.seq) = m2.seq - m.seq := by rw [IntKind.wrap_u64]; omega
     have hle : m2.seq - m.seq <= (liveM m z : Int) := by omega
     go_wp2_with (fail)
     refine H7.out.seq_.mono ?_
     rintro e u ⟨rfl, rfl⟩
     go_wp2_with (fail)
     refine H7.out.seq_.mono ?_
     rintro e u ⟨rfl, rfl⟩
     by_cases hz0 : 0 <= z
     · have HE := Lib.hid H7.out.low
       clear H7 HSQ q3
       go_wp2
       go_ret
       exact ⟨rfl, HE.out⟩
     · have heq : m2.seq = m.seq := q3 (by omega)
       have HE := Lib.hid H7.out.low
       clear HSQ q3
       go_wp2_with (fail)
       refine H7.out.seq_.mono ?_
       rintro e u ⟨rfl, rfl⟩
       go_wp2
       go_ret
       exact ⟨rfl, HE.out⟩
end Go.Proofs.YtfabgbmbnmbjkaaGreatDoor
