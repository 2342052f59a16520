/- LmapApart: the walk. -/
import Derived.Test.YtcbbkemfgnbcpaaAp
import Derived.Deep.Cut
namespace Go.Proofs.Ytcbbkemfgnbcpaa
open Go.RowKit

theorem Ap.mono {W w : World} {fm fn : LFp} {g nm nn : Nat} {Lm Ln M : List Pl} (h : Ap W w fm fn g nm nn Lm Ln M) {a b : Nat} (ha : nm ≤ a) (hb : nn ≤ b) : Ap W w fm fn g a b Lm Ln M := ⟨h.lm.mono ha, h.mr.mono hb, h.nf, h.dis⟩
theorem set2_kp {w : World} {b : Nat} (u v : Value) : Kp (fun i => i = b) w ((w.setCell ⟨b, 3, none⟩ u).setCell ⟨b, 4, none⟩ v) :=
  ((Kp.refl (fun i => i = b) w).setCell (p := ⟨b, 3, none⟩) (.inl rfl) u).setCell (p := ⟨b, 4, none⟩) (.inl rfl) v
theorem set2_blk {w : World} {b : Nat} {t : TypeId} {c0 c1 c2 c3 c4 : Value} (h : Blk w b t #[c0, c1, c2, c3, c4]) (u v : Value) : Blk ((w.setCell ⟨b, 3, none⟩ u).setCell ⟨b, 4, none⟩ v) b t #[c0, c1, c2, u, v] := by
  have := (h.set_ 3 u).set_ 4 v
  simpa using this
theorem set1_blk {w : World} {b : Nat} {t : TypeId} {c0 c1 c2 c3 c4 : Value} (h : Blk w b t #[c0, c1, c2, c3, c4]) (v : Value) : Blk (w.setCell ⟨b, 4, none⟩ v) b t #[c0, c1, c2, c3, v] := by
  have := h.set_ 4 v
  simpa using this

set_option maxRecDepth 20000 in
set_option maxHeartbeats 8000000 in
theorem apart_walk (A : Option Addr) (c : Nat) (l : List Ox) (T : Int) (w : World) (hlc : l.length ≤ c) (R : OpsAt w w.heap.size A l) (hok : ∀ i, i < l.length → OxOk (l.getD i o0)) (hT : U32Ok T) :
    Calls Try.prog 3 #[.slice A l.length c, .int .u32 T] w (Okay w) := by
  have HR := Lib.hid R
  have HOK := Lib.hid hok
  have HLC := Lib.hid hlc
  have HT := Lib.hid hT
  clear R hok hlc hT
  go_enter Try.func3, Try.ntmps3
  by_cases h150 : 150 < l.length
  · go_wp2_with (fail)
    refine (known_any _).mono ?_
    rintro e w1 ⟨rfl, hb1⟩
    go_wp2
    go_ret
    exact ⟨rfl, hb1⟩
  · go_wp2_with (fail)
    refine (known_any _).mono ?_
    rintro e w1 ⟨rfl, hb1⟩
    have HB1 := Lib.hid hb1
    clear hb1
    go_wp2_with (fail)
    refine (lnew_any _).mono ?_
    rintro e w2 ⟨fm, rfl, hf, hl, hb⟩
    have HB2 := Lib.hid (HB1.out.trans (hb.mono HB1.out.size))
    have HFm : Hid (∀ i, fm.S i → w.heap.size ≤ i) := fun i hi => Nat.le_trans HB1.out.size (hf i hi)
    have HLm := Lib.hid hl
    clear hf hl hb
    go_wp2_with (fail)
    refine (lnew_any _).mono ?_
    rintro e w3 ⟨fn, rfl, hf, hl, hb⟩
    have HB3 := Lib.hid (HB2.out.trans (hb.mono HB2.out.size))
    have HLm3 := Lib.hid (HLm.out.below hb)
    have HFn := Lib.hid hf
    have HLn := Lib.hid hl
    clear hf hl hb
    go_wp2_with (fail)
    refine (rnew_any _).mono ?_
    rintro e w4 ⟨g, rfl, hg, hr, hb⟩
    have hap : Ap w w4 fm fn g 0 0 [] [] [] := by
      refine ⟨HLm3.out.below hb, ⟨HLn.out.below hb, hr, HB3.out.trans (hb.mono HB3.out.size), fun i hi => Nat.le_trans HB2.out.size (HFn.out i hi), Nat.le_trans HB3.out.size hg, Nat.le_refl _⟩, HFm.out, fun i hi => ⟨fun hn => ?_, fun e => ?_⟩⟩
      · have h1 := HLm.out.lt hi
        have h2 := HFn.out i hn
        omega
      · have h1 := HLm3.out.lt hi
        omega
    have HAP := Lib.hid hap
    have HSM := Lib.hid (Same.nil T)
    clear hg hr hb hap HLm HLm3 HLn HB1 HB2 HB3 HFm HFn
    go_wp2_with (fail)
    go_loopw [8] (fun i wr => ∃ (k : Nat) (Lm Ln M : List Pl), k ≤ l.length ∧ i = .int .i64 k ∧ Hid (Ap w wr fm fn g (3 * k) (3 * k) Lm Ln M) ∧ Hid (Same T Lm Ln)) (fun i _ => l.length - (intOf i).toNat)
    case atStart => exact ⟨0, [], [], [], Nat.zero_le _, rfl, HAP, HSM⟩
    case round =>
      obtain ⟨k, Lm, Ln, M, hk, rfl, hap, hsm⟩ := hrel
      clear HAP HSM
      by_cases hlt : k < l.length
      · obtain ⟨ad, rfl, hadb, hat⟩ := HR.out k hlt
        have hat' := hat.below hap.out.mr.bl (by rw [block_of_add]; exact hadb)
        obtain ⟨c0, c1, c2, c3, c4⟩ := hat'
        have HOX := Lib.hid (HOK.out k hlt)
        have HN : Hid (3 * k + 10 < 1000000) := by unfold Hid; omega
        have HK : Hid (k < 200) := by unfold Hid; omega
        generalize l.getD k o0 = x at *
        clear hat
        obtain ⟨d, ⟨pt, pb, pz, pk⟩⟩ := x
        go_upto_region 10 with (fail)
        have hq : Aq w (wr.alloc (.cells #[.bool d, .int .u32 pt, .int .u64 pb, .int .i64 pz, .int .i64 pk] 35)) fm fn g (3 * k) (3 * k) Lm Ln M wr.heap.size ⟨d, ⟨pt, pb, pz, pk⟩⟩ := ⟨hap.out.alloc _, Blk.new _ _ _, hap.out.mr.bl.size⟩
        have HQ := Lib.hid hq
        clear hq hap c0 c1 c2 c3 c4 hadb
        change Code.wp _ _ _ _ (wr.alloc (.cells #[.bool d, .int .u32 pt, .int .u64 pb, .int .i64 pz, .int .i64 pk] 35))
        generalize wr.heap.size = b at *
        generalize wr.alloc (.cells #[.bool d, .int .u32 pt, .int .u64 pb, .int .i64 pz, .int .i64 pk] 35) = w5 at *
        obtain ⟨c0, c1, c2, c3, c4⟩ := HQ.out.cells
        have hfz : ∀ i, w5.frozen? ⟨b, i, none⟩ = false := fun i => HQ.out.box.frozen i
        have hkk : k < 200 := HK.out
        go_upto_region 11 with (fail)
        have hq6 : Aq w ((w5.setCell ⟨b, 3, none⟩ (.int .i64 pz)).setCell ⟨b, 4, none⟩ (.int .i64 (2 * (k : Int)))) fm fn g (3 * k) (3 * k) Lm Ln M b ⟨d, ⟨pt, pb, pz, 2 * k⟩⟩ := HQ.out.set (set2_kp _ _) (set2_blk HQ.out.box _ _)
        have HQ6 := Lib.hid hq6
        clear hq6 c0 c1 c2 c3 c4 hfz HQ
        generalize (w5.setCell ⟨b, 3, none⟩ (.int .i64 pz)).setCell ⟨b, 4, none⟩ (.int .i64 (2 * (k : Int))) = w6 at *
        have HON : Hid (NameOk (pt, pb)) := HOX.out.1
        have HOZ : Hid (-9223372036854775808 ≤ pz ∧ pz ≤ 9223372036854775807) := HOX.out.2.1
        clear HOX
        obtain ⟨c0, c1, c2, c3, c4⟩ := HQ6.out.cells
        simp only at c0 c1 c2 c3 c4
        rcases Classical.em (pt = T) with rfl | hne
        · go_wp2_with (fail)
          have ho6 : OxOk ⟨d, ⟨pt, pb, pz, 2 * k⟩⟩ := ⟨HON.out, HOZ.out, show -9223372036854775808 ≤ 2 * (k : Int) by omega, show 2 * (k : Int) ≤ 9223372036854775807 by omega⟩
          have HO6 := Lib.hid ho6
          clear ho6
          refine (HQ6.out.does HO6.out (by have := HN.out; omega)).mono ?_
          rintro e w7 ⟨rfl, hq⟩
          have HQ7 := Lib.hid hq
          clear hq c0 c1 c2 c3 c4
          obtain ⟨c0, c1, c2, c3, c4⟩ := HQ7.out.cells
          simp only at c0 c1 c2 c3 c4
          have hfz : ∀ i, w7.frozen? ⟨b, i, none⟩ = false := fun i => HQ7.out.box.frozen i
          go_upto_region 15 with (fail)
          have hq8 : Aq w (w7.setCell ⟨b, 4, none⟩ (.int .i64 (2 * (k : Int)))) fm fn g (3 * k) (3 * k + 3) Lm (stepL ⟨d, ⟨pt, pb, pz, 2 * k⟩⟩ Ln) (stepR ⟨d, ⟨pt, pb, pz, 2 * k⟩⟩ M) b ⟨d, ⟨pt, pb, pz, 2 * k⟩⟩ := HQ7.out.set ((Kp.refl (fun i => i = b) w7).setCell (p := ⟨b, 4, none⟩) (.inl rfl) _) (set1_blk HQ7.out.box _)
          have HQ8 := Lib.hid hq8
          have HO8 := HO6
          have HS : Hid (Same pt (stepL ⟨d, ⟨pt, pb, pz, 2 * k⟩⟩ Lm) (stepL ⟨d, ⟨pt, pb, pz, 2 * k⟩⟩ Ln)) := hsm.out.own _ rfl (by show 2 * (k : Int) % 2 = 0; omega)
          clear hq8 c0 c1 c2 c3 c4 hfz HQ6
          generalize w7.setCell ⟨b, 4, none⟩ (.int .i64 (2 * (k : Int))) = w8 at *
          obtain ⟨c0, c1, c2, c3, c4⟩ := HQ8.out.cells
          simp only at c0 c1 c2 c3 c4
          cases d
          case' false =>
            go_wp2_with (fail)
            refine (HQ8.out.put HO8.out (by have := HN.out; omega)).mono ?_
            rintro e w9 ⟨rfl, hq⟩
            have HQ9 : Hid (Aq w w9 fm fn g (3 * k + 3) (3 * k + 3) (stepL ⟨false, ⟨pt, pb, pz, 2 * k⟩⟩ Lm) (stepL ⟨false, ⟨pt, pb, pz, 2 * k⟩⟩ Ln) (stepR ⟨false, ⟨pt, pb, pz, 2 * k⟩⟩ M) b ⟨false, ⟨pt, pb, pz, 2 * k⟩⟩) := hq
            clear hq c0 c1 c2 c3 c4
          case' true =>
            go_wp2_with (fail)
            refine (HQ8.out.drop HO8.out (by have := HN.out; omega)).mono ?_
            rintro e w9 ⟨rfl, hq⟩
            have HQ9 : Hid (Aq w w9 fm fn g (3 * k + 3) (3 * k + 3) (stepL ⟨true, ⟨pt, pb, pz, 2 * k⟩⟩ Lm) (stepL ⟨true, ⟨pt, pb, pz, 2 * k⟩⟩ Ln) (stepR ⟨true, ⟨pt, pb, pz, 2 * k⟩⟩ M) b ⟨true, ⟨pt, pb, pz, 2 * k⟩⟩) := hq
            clear hq c0 c1 c2 c3 c4
          all_goals
            clear HQ8 HQ7
            generalize stepL _ Lm = Lm2 at *
            generalize stepL _ Ln = Ln2 at *
            generalize stepR _ M = M2 at *
            obtain ⟨r, hr⟩ : ∃ r, atOf Lm2 (pt, pb) = r := ⟨_, rfl⟩
            obtain ⟨y, hy⟩ : ∃ y, cnt Lm2 pt = y := ⟨_, rfl⟩
            have hrn : atOf Ln2 (pt, pb) = r := by rw [← HS.out.1, atOf_ofT, hr]
            have hyn : cnt Ln2 pt = y := by rw [← HS.out.1, cnt_ofT, hy]
            have H1 := Lib.hid hr
            have H2 := Lib.hid hrn
            have H3 := Lib.hid hy
            have H4 := Lib.hid hyn
            have HNM : Hid (NameOk (pt, pb)) := ⟨HT.out, HON.out.2⟩
            clear hr hrn hy hyn
            obtain ⟨c0, c1, c2, c3, c4⟩ := HQ9.out.cells
            simp only at c0 c1 c2 c3 c4
            go_wp2_with (fail)
            refine (HQ9.out.get_m (pt, pb) HNM.out H1.out).mono ?_
            rintro e w10 ⟨rfl, hq, _⟩
            obtain ⟨a, hra⟩ : ∃ a, r.getD (0, 0) = a := ⟨_, rfl⟩
            rw [hra]
            obtain ⟨a1, a2⟩ := a
            have HR0 := Lib.hid hra
            clear hra
            have HQ10 := Lib.hid (hq.alloc (.cells #[.int .i64 a1, .int .i64 a2] 31))
            have HB10 : Hid (Blk (w10.alloc (.cells #[.int .i64 a1, .int .i64 a2] 31)) w10.heap.size 31 #[.int .i64 a1, .int .i64 a2]) := Blk.new _ _ _
            clear hq c0 c1 c2 c3 c4
            go_upto_region 19 with (fail)
            change Code.wp _ _ _ _ (w10.alloc (.cells #[.int .i64 a1, .int .i64 a2] 31))
            generalize w10.heap.size = s10 at *
            generalize w10.alloc (.cells #[.int .i64 a1, .int .i64 a2] 31) = w11 at *
            obtain ⟨c0, c1, c2, c3, c4⟩ := HQ10.out.cells
            simp only at c0 c1 c2 c3 c4
            go_wp2_with (fail)
            refine (HQ10.out.get_n (pt, pb) HNM.out H2.out).mono ?_
            rintro e w12 ⟨rfl, hq, hb⟩
            rw [show r.getD (0, 0) = (a1, a2) from HR0.out]
            have HQ12 := Lib.hid (hq.alloc (.cells #[.int .i64 a1, .int .i64 a2] 31))
            have HB12 : Hid (Blk (w12.alloc (.cells #[.int .i64 a1, .int .i64 a2] 31)) w12.heap.size 31 #[.int .i64 a1, .int .i64 a2]) := Blk.new _ _ _
            have HC10 := Lib.hid ((HB10.out.below hb HB10.out.lt).alloc (.cells #[.int .i64 a1, .int .i64 a2] 31))
            clear hq hb c0 c1 c2 c3 c4 HQ10 HB10
            go_upto_region 20 with (fail)
            change Code.wp _ _ _ _ (w12.alloc (.cells #[.int .i64 a1, .int .i64 a2] 31))
            generalize w12.heap.size = s12 at *
            generalize w12.alloc (.cells #[.int .i64 a1, .int .i64 a2] 31) = w13 at *
            have f0 : w13.cell? ⟨s10, 0, none⟩ = some (.int .i64 a1) := HC10.out.cell 0
            have f1 : w13.cell? ⟨s10, 1, none⟩ = some (.int .i64 a2) := HC10.out.cell 1
            have g0 : w13.cell? ⟨s12, 0, none⟩ = some (.int .i64 a1) := HB12.out.cell 0
            have g1 : w13.cell? ⟨s12, 1, none⟩ = some (.int .i64 a2) := HB12.out.cell 1
            go_wp2_with (fail)
            refine (HQ12.out.count_m pt HT.out H3.out).mono ?_
            rintro e w14 ⟨rfl, hq, _⟩
            have HQ14 := Lib.hid hq
            clear hq f0 f1 g0 g1
            go_wp2_with (fail)
            refine (HQ14.out.count_n pt HT.out H4.out).mono ?_
            rintro e w15 ⟨rfl, hq, _⟩
            have HQ15 := Lib.hid hq
            clear hq
            have HA15 : Hid (Ap w w15 fm fn g (3 * (k + 1)) (3 * (k + 1)) Lm2 Ln2 M2) := HQ15.out.ap
            go_wp2
            go_round
            case rel => exact ⟨k + 1, _, _, _, hlt, by go_num, HA15, HS⟩
            case measure => simp [intOf]; omega
        · have hfz : ∀ i, w6.frozen? ⟨b, i, none⟩ = false := fun i => HQ6.out.box.frozen i
          have HNE := Lib.hid hne
          go_upto_region 15 with (fail)
          have hq8 : Aq w (w6.setCell ⟨b, 4, none⟩ (.int .i64 (2 * (k : Int) + 1))) fm fn g (3 * k) (3 * k + 3) Lm Ln M b ⟨d, ⟨pt, pb, pz, 2 * k + 1⟩⟩ := by
            have := HQ6.out.set (o' := ⟨d, ⟨pt, pb, pz, 2 * k + 1⟩⟩) ((Kp.refl (fun i => i = b) w6).setCell (p := ⟨b, 4, none⟩) (.inl rfl) _) (set1_blk HQ6.out.box (.int .i64 (2 * (k : Int) + 1)))
            exact ⟨this.ap.mono (Nat.le_refl _) (Nat.le_add_right _ 3), this.box, this.nb⟩
          have HQ8 := Lib.hid hq8
          have HQ7 := HQ8
          have ho8 : OxOk ⟨d, ⟨pt, pb, pz, 2 * k + 1⟩⟩ := ⟨HON.out, HOZ.out, show -9223372036854775808 ≤ 2 * (k : Int) + 1 by omega, show 2 * (k : Int) + 1 ≤ 9223372036854775807 by omega⟩
          have HO8 := Lib.hid ho8
          have HS : Hid (Same T (stepL ⟨d, ⟨pt, pb, pz, 2 * k + 1⟩⟩ Lm) Ln) := hsm.out.other _ HNE.out (by show (2 * (k : Int) + 1) % 2 = 1; omega)
          clear hq8 ho8 c0 c1 c2 c3 c4 hfz HQ6
          generalize w6.setCell ⟨b, 4, none⟩ (.int .i64 (2 * (k : Int) + 1)) = w8 at *
          obtain ⟨c0, c1, c2, c3, c4⟩ := HQ8.out.cells
          simp only at c0 c1 c2 c3 c4
          cases d
          case' false =>
            go_wp2_with (fail)
            refine (HQ8.out.put HO8.out (by have := HN.out; omega)).mono ?_
            rintro e w9 ⟨rfl, hq⟩
            have HQ9 : Hid (Aq w w9 fm fn g (3 * k + 3) (3 * k + 3) (stepL ⟨false, ⟨pt, pb, pz, 2 * k + 1⟩⟩ Lm) Ln M b ⟨false, ⟨pt, pb, pz, 2 * k + 1⟩⟩) := hq
            clear hq c0 c1 c2 c3 c4
          case' true =>
            go_wp2_with (fail)
            refine (HQ8.out.drop HO8.out (by have := HN.out; omega)).mono ?_
            rintro e w9 ⟨rfl, hq⟩
            have HQ9 : Hid (Aq w w9 fm fn g (3 * k + 3) (3 * k + 3) (stepL ⟨true, ⟨pt, pb, pz, 2 * k + 1⟩⟩ Lm) Ln M b ⟨true, ⟨pt, pb, pz, 2 * k + 1⟩⟩) := hq
            clear hq c0 c1 c2 c3 c4
          all_goals
            clear HQ8 HQ7
            generalize stepL _ Lm = Lm2 at *
            generalize Ln = Ln2 at *
            generalize M = M2 at *
            obtain ⟨r, hr⟩ : ∃ r, atOf Lm2 (T, pb) = r := ⟨_, rfl⟩
            obtain ⟨y, hy⟩ : ∃ y, cnt Lm2 T = y := ⟨_, rfl⟩
            have hrn : atOf Ln2 (T, pb) = r := by rw [← HS.out.1, atOf_ofT, hr]
            have hyn : cnt Ln2 T = y := by rw [← HS.out.1, cnt_ofT, hy]
            have H1 := Lib.hid hr
            have H2 := Lib.hid hrn
            have H3 := Lib.hid hy
            have H4 := Lib.hid hyn
            have HNM : Hid (NameOk (T, pb)) := ⟨HT.out, HON.out.2⟩
            clear hr hrn hy hyn
            obtain ⟨c0, c1, c2, c3, c4⟩ := HQ9.out.cells
            simp only at c0 c1 c2 c3 c4
            go_wp2_with (fail)
            refine (HQ9.out.get_m (T, pb) HNM.out H1.out).mono ?_
            rintro e w10 ⟨rfl, hq, _⟩
            obtain ⟨a, hra⟩ : ∃ a, r.getD (0, 0) = a := ⟨_, rfl⟩
            rw [hra]
            obtain ⟨a1, a2⟩ := a
            have HR0 := Lib.hid hra
            clear hra
            have HQ10 := Lib.hid (hq.alloc (.cells #[.int .i64 a1, .int .i64 a2] 31))
            have HB10 : Hid (Blk (w10.alloc (.cells #[.int .i64 a1, .int .i64 a2] 31)) w10.heap.size 31 #[.int .i64 a1, .int .i64 a2]) := Blk.new _ _ _
            clear hq c0 c1 c2 c3 c4
            go_upto_region 19 with (fail)
            change Code.wp _ _ _ _ (w10.alloc (.cells #[.int .i64 a1, .int .i64 a2] 31))
            generalize w10.heap.size = s10 at *
            generalize w10.alloc (.cells #[.int .i64 a1, .int .i64 a2] 31) = w11 at *
            obtain ⟨c0, c1, c2, c3, c4⟩ := HQ10.out.cells
            simp only at c0 c1 c2 c3 c4
            go_wp2_with (fail)
            refine (HQ10.out.get_n (T, pb) HNM.out H2.out).mono ?_
            rintro e w12 ⟨rfl, hq, hb⟩
            rw [show r.getD (0, 0) = (a1, a2) from HR0.out]
            have HQ12 := Lib.hid (hq.alloc (.cells #[.int .i64 a1, .int .i64 a2] 31))
            have HB12 : Hid (Blk (w12.alloc (.cells #[.int .i64 a1, .int .i64 a2] 31)) w12.heap.size 31 #[.int .i64 a1, .int .i64 a2]) := Blk.new _ _ _
            have HC10 := Lib.hid ((HB10.out.below hb HB10.out.lt).alloc (.cells #[.int .i64 a1, .int .i64 a2] 31))
            clear hq hb c0 c1 c2 c3 c4 HQ10 HB10
            go_upto_region 20 with (fail)
            change Code.wp _ _ _ _ (w12.alloc (.cells #[.int .i64 a1, .int .i64 a2] 31))
            generalize w12.heap.size = s12 at *
            generalize w12.alloc (.cells #[.int .i64 a1, .int .i64 a2] 31) = w13 at *
            have f0 : w13.cell? ⟨s10, 0, none⟩ = some (.int .i64 a1) := HC10.out.cell 0
            have f1 : w13.cell? ⟨s10, 1, none⟩ = some (.int .i64 a2) := HC10.out.cell 1
            have g0 : w13.cell? ⟨s12, 0, none⟩ = some (.int .i64 a1) := HB12.out.cell 0
            have g1 : w13.cell? ⟨s12, 1, none⟩ = some (.int .i64 a2) := HB12.out.cell 1
            go_wp2_with (fail)
            refine (HQ12.out.count_m T HT.out H3.out).mono ?_
            rintro e w14 ⟨rfl, hq, _⟩
            have HQ14 := Lib.hid hq
            clear hq f0 f1 g0 g1
            go_wp2_with (fail)
            refine (HQ14.out.count_n T HT.out H4.out).mono ?_
            rintro e w15 ⟨rfl, hq, _⟩
            have HQ15 := Lib.hid hq
            clear hq
            have HA15 : Hid (Ap w w15 fm fn g (3 * (k + 1)) (3 * (k + 1)) Lm2 Ln2 M2) := HQ15.out.ap
            go_wp2
            go_round
            case rel => exact ⟨k + 1, _, _, _, hlt, by go_num, HA15, HS⟩
            case measure => simp [intOf]; omega
      · go_wp2
        go_ret
        exact ⟨rfl, hap.out.mr.bl⟩
end Go.Proofs.Ytcbbkemfgnbcpaa
