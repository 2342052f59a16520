/- LmapDoes: the walk, a round. -/
import Derived.Test.YtcbbkemfgnbcpaaDd
namespace Go.Proofs.Ytcbbkemfgnbcpaa
open Go.RowKit

set_option maxRecDepth 20000 in
set_option maxHeartbeats 8000000 in
theorem doall_walk (A : Option Addr) (c : Nat) (l : List Ox) (w : World) (hlc : l.length ≤ c) (R : OpsAt w w.heap.size A l) (hok : ∀ i, i < l.length → OxOk (l.getD i o0)) :
    Calls Try.prog 6 #[.slice A l.length c] w (Okay w) := by
  have HR := Lib.hid R
  have HOK := Lib.hid hok
  have HLC := Lib.hid hlc
  clear R hok hlc
  go_enter Try.func6, Try.ntmps6
  by_cases h150 : 150 < l.length
  · go_wp2_with (fail)
    refine (known_any _).mono ?_
    rintro e w1 ⟨rfl, hb1⟩
    go_wp2
    go_ret
    exact ⟨rfl, hb1⟩
  · go_wp2_with (fail)
    refine (known_any _).mono ?_
    rintro e w1 ⟨rfl, hb1⟩
    have HB1 := Lib.hid hb1
    clear hb1
    go_wp2_with (fail)
    refine (lnew_any _).mono ?_
    rintro e w2 ⟨f, rfl, hf, hl, hb⟩
    have HB2 := Lib.hid (HB1.out.trans (hb.mono HB1.out.size))
    have HF : Hid (∀ i, f.S i → w.heap.size ≤ i) := fun i hi => Nat.le_trans HB1.out.size (hf i hi)
    have HL := Lib.hid hl
    clear hf hl hb
    go_wp2_with (fail)
    refine (rnew_any _).mono ?_
    rintro e w3 ⟨g, rfl, hg, hr, hb⟩
    have hmr : MR w w3 f g 0 [] [] := ⟨HL.out.below hb, hr, HB2.out.trans (hb.mono HB2.out.size), HF.out, Nat.le_trans HB2.out.size hg, Nat.le_refl _⟩
    have HMR := Lib.hid hmr
    clear hg hr hb hmr HL HB1 HB2 HF
    go_wp2_with (fail)
    go_loopw [5] (fun i wr => ∃ (k : Nat) (L M : List Pl), k ≤ l.length ∧ i = .int .i64 k ∧ Hid (MR w wr f g (3 * k) L M) ∧ Hid (Twin L M)) (fun i _ => l.length - (intOf i).toNat)
    case atStart => exact ⟨0, [], [], Nat.zero_le _, rfl, HMR, Twin.nil⟩
    case round =>
      obtain ⟨k, L, M, hk, rfl, hm, htw⟩ := hrel
      by_cases hlt : k < l.length
      · obtain ⟨ad, rfl, hadb, hat⟩ := HR.out k hlt
        have HAT := Lib.hid (hat.below hm.out.bl (by rw [block_of_add]; exact hadb))
        have HAD : Hid ((ad.add (k * 5)).block < w.heap.size) := by rw [block_of_add]; exact hadb
        have HAT0 := Lib.hid hat
        have HOX := Lib.hid (HOK.out k hlt)
        generalize l.getD k o0 = x at *
        have hd0 := does_any w wr f g (3 * k) L M x HOX.out (by omega) hm.out
        rw [htw.out.ok hm.out.lm.uniq x] at hd0
        have HD := Lib.hid hd0
        unfold opV at HD
        obtain ⟨c0, c1, c2, c3, c4⟩ := HAT.out
        have HLT := Lib.hid hlt
        have HN1 : Hid (3 * (k + 1) ≤ 1000) := by unfold Hid; omega
        have HK5 : Hid (k * 5 + 5 ≤ 1000000) := by unfold Hid; omega
        have hk150 : (k : Int) ≤ 150 := by omega
        clear hat hd0 hadb HMR
        go_wp2_with (fail)
        refine HD.out.mono ?_
        rintro e w4 ⟨rfl, hm4⟩
        have HM4 : Hid (MR w w4 f g (3 * (k + 1)) (stepL x L) (stepR x M)) := hm4
        have HTW4 : Hid (Twin (stepL x L) (stepR x M)) := htw.out.step x
        clear hm4 c0 c1 c2 c3 c4
        generalize stepL x L = L4 at *
        generalize stepR x M = M4 at *
        obtain ⟨c0, c1, c2, c3, c4⟩ := HAT0.out.below HM4.out.bl HAD.out
        go_wp2_with (fail)
        have HD5 : Hid (Dd w (w4.alloc (.cells #[.int .u32 x.p.t, .int .u64 x.p.b, .int .i64 x.p.z, .int .i64 x.p.k] 33)) f g (3 * (k + 1)) L4 M4 w4.heap.size x.p) := ⟨HM4.out.alloc _, HTW4.out, HOX.out, HN1.out, Blk.new _ _ _⟩
        clear c0 c1 c2 c3 c4 HD hm htw HAT
        generalize w4.alloc (.cells #[.int .u32 x.p.t, .int .u64 x.p.b, .int .i64 x.p.z, .int .i64 x.p.k] 33) = w5 at *
        generalize w4.heap.size = b7 at *
        obtain ⟨xd, p⟩ := x
        obtain ⟨q, hq⟩ : ∃ q, atOf L4 p.n = q := ⟨_, rfl⟩
        obtain ⟨y, hy⟩ : ∃ y, inPl L4 p.a = y := ⟨_, rfl⟩
        obtain ⟨is, his⟩ : ∃ is, (inAt L4 p.a).isSome = is := ⟨_, rfl⟩
        obtain ⟨ct, hct⟩ : ∃ ct, cnt L4 p.t = ct := ⟨_, rfl⟩
        have HGQ := Lib.hid hq
        have HY := Lib.hid hy
        have HIS := Lib.hid his
        have HCT := Lib.hid hct
        clear hq hy his hct
        simp only at *
        refine (HD5.out.get HGQ.out).mono ?_
        rintro e w6 ⟨rfl, hb6⟩
        generalize hq0 : q.getD (0, 0) = qa
        generalize hq1 : q.isSome = qi
        have HQA := Lib.hid hq0
        have HQI := Lib.hid hq1
        clear hq0 hq1
        have hd6 := HD5.out.below hb6
        obtain ⟨e0, e1, e2, e3⟩ := hd6.cells
        have hb7 : b7 < w6.heap.size := hd6.box.lt
        have HD6 := Lib.hid hd6
        clear hb6 hd6
        go_wp2_with (fail)
        have HD6a := Lib.hid (HD6.out.alloc (.cells #[.int .i64 qa.1, .int .i64 qa.2] 31))
        have HB8 := Lib.hid (Blk.new w6 31 #[.int .i64 qa.1, .int .i64 qa.2])
        clear e0 e1 e2 e3 hb7 HD6
        generalize w6.alloc (.cells #[.int .i64 qa.1, .int .i64 qa.2] 31) = w6a at *
        generalize w6.heap.size = b8 at *
        have hrg := HD6a.out.rget HGQ.out
        rw [HQA.out, HQI.out] at hrg
        refine hrg.mono ?_
        rintro e w7 ⟨rfl, hb⟩
        clear hrg
        have hd7 := HD6a.out.below hb
        have hb87 := HB8.out.below hb HB8.out.lt
        obtain ⟨e0, e1, e2, e3⟩ := hd7.cells
        have hb7 : b7 < w7.heap.size := hd7.box.lt
        have HD7 := Lib.hid hd7
        have HB87 := Lib.hid hb87
        clear hb hd7 hb87 HD6a HB8
        go_wp2_with (fail)
        have HD7a := Lib.hid (HD7.out.alloc (.cells #[.int .i64 qa.1, .int .i64 qa.2] 31))
        have HB8 := Lib.hid (HB87.out.alloc (.cells #[.int .i64 qa.1, .int .i64 qa.2] 31))
        have HB10 := Lib.hid (Blk.new w7 31 #[.int .i64 qa.1, .int .i64 qa.2])
        clear e0 e1 e2 e3 hb7 HD7 HB87
        generalize w7.alloc (.cells #[.int .i64 qa.1, .int .i64 qa.2] 31) = w7a at *
        generalize w7.heap.size = b10 at *
        refine (HD7a.out.at_ HY.out HIS.out).mono ?_
        rintro e w8 ⟨rfl, hb⟩
        have hd8 := HD7a.out.below hb
        have hb8 := HB8.out.below hb HB8.out.lt
        have hb10 := HB10.out.below hb HB10.out.lt
        obtain ⟨e0, e1, e2, e3⟩ := hd8.cells
        have hb7 : b7 < w8.heap.size := hd8.box.lt
        clear HB8 HB10 HD7a
        have HD8 := Lib.hid hd8
        have HB8 := Lib.hid hb8
        have HB10 := Lib.hid hb10
        clear hb hd8 hb8 hb10
        go_wp2_with (fail)
        have HD8a := Lib.hid (HD8.out.alloc (.cells #[.int .u32 y.t, .int .u64 y.b, .int .i64 y.z, .int .i64 y.k] 33))
        have HB8a := Lib.hid (HB8.out.alloc (.cells #[.int .u32 y.t, .int .u64 y.b, .int .i64 y.z, .int .i64 y.k] 33))
        have HB10a := Lib.hid (HB10.out.alloc (.cells #[.int .u32 y.t, .int .u64 y.b, .int .i64 y.z, .int .i64 y.k] 33))
        have HB12 := Lib.hid (Blk.new w8 33 #[.int .u32 y.t, .int .u64 y.b, .int .i64 y.z, .int .i64 y.k])
        clear e0 e1 e2 e3 hb7 HD8 HB8 HB10
        generalize w8.alloc (.cells #[.int .u32 y.t, .int .u64 y.b, .int .i64 y.z, .int .i64 y.k] 33) = w8a at *
        generalize w8.heap.size = b12 at *
        refine (HD8a.out.rat HY.out HIS.out).mono ?_
        rintro e w9 ⟨rfl, hb⟩
        have hd9 := HD8a.out.below hb
        have hb8 := HB8a.out.below hb HB8a.out.lt
        have hb10 := HB10a.out.below hb HB10a.out.lt
        have hb12 := HB12.out.below hb HB12.out.lt
        clear HB8a HB10a HB12 HD8a
        have hd10 := hd9.alloc (.cells #[.int .u32 y.t, .int .u64 y.b, .int .i64 y.z, .int .i64 y.k] 33)
        have h8 := hb8.alloc (.cells #[.int .u32 y.t, .int .u64 y.b, .int .i64 y.z, .int .i64 y.k] 33)
        have h10 := hb10.alloc (.cells #[.int .u32 y.t, .int .u64 y.b, .int .i64 y.z, .int .i64 y.k] 33)
        have h12 := hb12.alloc (.cells #[.int .u32 y.t, .int .u64 y.b, .int .i64 y.z, .int .i64 y.k] 33)
        have h14 := Blk.new w9 33 #[.int .u32 y.t, .int .u64 y.b, .int .i64 y.z, .int .i64 y.k]
        have HD10 := Lib.hid hd10
        have HB := Lib.hid (And.intro h8 (And.intro h10 (And.intro h12 h14)))
        clear hb hd9 hd10 hb8 hb10 hb12 h8 h10 h12 h14
        go_wp2_with (fail)
        generalize w9.alloc (.cells #[.int .u32 y.t, .int .u64 y.b, .int .i64 y.z, .int .i64 y.k] 33) = w10 at *
        generalize w9.heap.size = b14 at *
        obtain ⟨h8, h10, h12, h14⟩ := HB.out
        obtain ⟨e0, _, _, _⟩ := HD10.out.cells
        have ks : w10.cell? ⟨b7, 0, none⟩ = some (.int .u32 p.t) ∧ (w10.cell? ⟨b8, 0, none⟩ = some (.int .i64 qa.1) ∧ w10.cell? ⟨b8, 1, none⟩ = some (.int .i64 qa.2)) ∧ (w10.cell? ⟨b10, 0, none⟩ = some (.int .i64 qa.1) ∧ w10.cell? ⟨b10, 1, none⟩ = some (.int .i64 qa.2)) ∧
            (w10.cell? ⟨b12, 0, none⟩ = some (.int .u32 y.t) ∧ w10.cell? ⟨b12, 1, none⟩ = some (.int .u64 y.b) ∧ w10.cell? ⟨b12, 2, none⟩ = some (.int .i64 y.z) ∧ w10.cell? ⟨b12, 3, none⟩ = some (.int .i64 y.k)) ∧
            (w10.cell? ⟨b14, 0, none⟩ = some (.int .u32 y.t) ∧ w10.cell? ⟨b14, 1, none⟩ = some (.int .u64 y.b) ∧ w10.cell? ⟨b14, 2, none⟩ = some (.int .i64 y.z) ∧ w10.cell? ⟨b14, 3, none⟩ = some (.int .i64 y.k)) :=
          ⟨e0, ⟨h8.cell 0, h8.cell 1⟩, ⟨h10.cell 0, h10.cell 1⟩, ⟨h12.cell 0, h12.cell 1, h12.cell 2, h12.cell 3⟩, ⟨h14.cell 0, h14.cell 1, h14.cell 2, h14.cell 3⟩⟩
        have HKS := Lib.hid ks
        clear h8 h10 h12 h14 e0 HB
        go_region_held3 (fun u => u.cell? ⟨b7, 0, none⟩ = some (.int .u32 p.t) ∧ (u.cell? ⟨b8, 0, none⟩ = some (.int .i64 qa.1) ∧ u.cell? ⟨b8, 1, none⟩ = some (.int .i64 qa.2)) ∧ (u.cell? ⟨b10, 0, none⟩ = some (.int .i64 qa.1) ∧ u.cell? ⟨b10, 1, none⟩ = some (.int .i64 qa.2)) ∧
            (u.cell? ⟨b12, 0, none⟩ = some (.int .u32 y.t) ∧ u.cell? ⟨b12, 1, none⟩ = some (.int .u64 y.b) ∧ u.cell? ⟨b12, 2, none⟩ = some (.int .i64 y.z) ∧ u.cell? ⟨b12, 3, none⟩ = some (.int .i64 y.k)) ∧
            (u.cell? ⟨b14, 0, none⟩ = some (.int .u32 y.t) ∧ u.cell? ⟨b14, 1, none⟩ = some (.int .u64 y.b) ∧ u.cell? ⟨b14, 2, none⟩ = some (.int .i64 y.z) ∧ u.cell? ⟨b14, 3, none⟩ = some (.int .i64 y.k)))
          (first | exact ks | exact ks2)
          (first
            | (go_at_call 15
               refine ((HD10.out.drewN 1).count HCT.out).mono ?_
               rintro e w11 ⟨rfl, hb⟩
               have HD11 := Lib.hid ((HD10.out.drewN 1).below hb)
               have ks2 : w11.cell? ⟨b7, 0, none⟩ = some (.int .u32 p.t) ∧ (w11.cell? ⟨b8, 0, none⟩ = some (.int .i64 qa.1) ∧ w11.cell? ⟨b8, 1, none⟩ = some (.int .i64 qa.2)) ∧ (w11.cell? ⟨b10, 0, none⟩ = some (.int .i64 qa.1) ∧ w11.cell? ⟨b10, 1, none⟩ = some (.int .i64 qa.2)) ∧
                   (w11.cell? ⟨b12, 0, none⟩ = some (.int .u32 y.t) ∧ w11.cell? ⟨b12, 1, none⟩ = some (.int .u64 y.b) ∧ w11.cell? ⟨b12, 2, none⟩ = some (.int .i64 y.z) ∧ w11.cell? ⟨b12, 3, none⟩ = some (.int .i64 y.k)) ∧
                   (w11.cell? ⟨b14, 0, none⟩ = some (.int .u32 y.t) ∧ w11.cell? ⟨b14, 1, none⟩ = some (.int .u64 y.b) ∧ w11.cell? ⟨b14, 2, none⟩ = some (.int .i64 y.z) ∧ w11.cell? ⟨b14, 3, none⟩ = some (.int .i64 y.k)) :=
                 ⟨below_keep hb HKS.out.1, ⟨below_keep hb HKS.out.2.1.1, below_keep hb HKS.out.2.1.2⟩, ⟨below_keep hb HKS.out.2.2.1.1, below_keep hb HKS.out.2.2.1.2⟩,
                   ⟨below_keep hb HKS.out.2.2.2.1.1, below_keep hb HKS.out.2.2.2.1.2.1, below_keep hb HKS.out.2.2.2.1.2.2.1, below_keep hb HKS.out.2.2.2.1.2.2.2⟩,
                   ⟨below_keep hb HKS.out.2.2.2.2.1, below_keep hb HKS.out.2.2.2.2.2.1, below_keep hb HKS.out.2.2.2.2.2.2.1, below_keep hb HKS.out.2.2.2.2.2.2.2⟩⟩
               clear hb)
            | (go_at_call 23
               refine (HD11.out.rcount HCT.out).mono ?_
               rintro e w12 ⟨rfl, rfl⟩))
        clear ks ks2 HKS HGQ HY HIS HCT HQA HQI HD10
        go_wp2_with (fail)
        obtain ⟨_, _, e2, _⟩ := HD11.out.cells
        have HD12 := Lib.hid (HD11.out.drewN 1)
        clear HD11
        go_region_held3 (fun u => u.cell? ⟨b7, 2, none⟩ = some (.int .i64 p.z))
          (first | exact e2 | exact f13 | exact f14 | exact f15 | exact f16 | exact f17 | exact f18)
          (first
            | (go_at_call 18
               refine HD12.out.in_.mono ?_
               rintro e w13 ⟨A13, c13, S13, rfl, hr13, hp13, hs13, hl13, hb⟩
               have HD13 := Lib.hid (HD12.out.below hb)
               have HR13 := Lib.hid hr13
               have HP13 := Lib.hid hp13
               have HS13 := Lib.hid hs13
               have HL13 := Lib.hid hl13
               obtain ⟨_, _, f13, _⟩ := HD13.out.cells
               clear hr13 hp13 hs13 hl13 hb)
            | (go_at_call 24
               refine (HD13.out.rin HP13.out HS13.out).mono ?_
               rintro e w14 ⟨A14, c14, rfl, hr14, hb⟩
               have HD14 := Lib.hid (HD13.out.below hb)
               have HR14 := Lib.hid (And.intro (HR13.out.below hb) hr14)
               obtain ⟨_, _, f14, _⟩ := HD14.out.cells
               clear hr14 hb)
            | (go_at_call 19
               with_reducible refine (same_any w14 A13 A14 c13 c14 S13 HL13.out HR14.out.1 HR14.out.2).mono ?_
               rintro e w15 ⟨rfl, n15, hw15⟩
               have HD15 : Hid (Dd w w15 f g (3 * (k + 1)) L4 M4 b7 p) := by rw [hw15]; exact HD14.out.drewN n15
               obtain ⟨_, _, f15, _⟩ := HD15.out.cells
               clear hw15)
            | (go_at_call 17
               refine HD15.out.all.mono ?_
               rintro e w16 ⟨A16, c16, rfl, hr16, hb⟩
               have HD16 := Lib.hid (HD15.out.below hb)
               have HR16 := Lib.hid hr16
               obtain ⟨_, _, f16, _⟩ := HD16.out.cells
               clear hr16 hb)
            | (go_at_call 20
               refine HD16.out.rall.mono ?_
               rintro e w17 ⟨A17, c17, rfl, hr17, hb⟩
               have HD17 := Lib.hid (HD16.out.below hb)
               have HR17 := Lib.hid (And.intro (HR16.out.below hb) hr17)
               obtain ⟨_, _, f17, _⟩ := HD17.out.cells
               clear hr17 hb)
            | (go_at_call 19
               with_reducible refine (same_any w17 A16 A17 c16 c17 M4 HD17.out.len.1 HR17.out.1 HR17.out.2).mono ?_
               rintro e w18 ⟨rfl, n18, hw18⟩
               have HD18 : Hid (Dd w w18 f g (3 * (k + 1)) L4 M4 b7 p) := by rw [hw18]; exact HD17.out.drewN n18
               obtain ⟨_, _, f18, _⟩ := HD18.out.cells
               clear hw18))
        have HM18 := Lib.hid HD18.out.mr
        have HT18 := Lib.hid HD18.out.tw
        clear e2 f13 f14 f15 f16 f17 f18 HD12 HD13 HD14 HD15 HD16 HD17 HD18 HR13 HR14 HR16 HR17
        go_wp2
        go_round
        case rel => exact ⟨k + 1, _, _, HLT.out, by go_num, HM18, HT18⟩
        case measure => have := HLT.out; simp [intOf]; omega
      · have hkl : (k : Int) = l.length := by omega
        have HB := Lib.hid hm.out.bl
        go_wp2
        go_ret
        exact ⟨rfl, HB.out⟩
end Go.Proofs.Ytcbbkemfgnbcpaa
