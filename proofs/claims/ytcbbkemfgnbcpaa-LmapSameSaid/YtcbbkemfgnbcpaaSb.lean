/- LmapSame: the walk. -/
import Derived.Test.YtcbbkemfgnbcpaaSa
import Derived.Deep.CutRange
import Derived.BigQuiet
namespace Go.Proofs.Ytcbbkemfgnbcpaa
open Go.RowKit

def zonesOf (l : List Ox) (k : Nat) : List Int := (l.take k).map (fun o => o.p.z)
theorem zonesOf_succ (l : List Ox) (k : Nat) (h : k < l.length) : zonesOf l (k + 1) = zonesOf l k ++ [(l.getD k o0).p.z] := by
  unfold zonesOf
  rw [List.take_succ_eq_append_getElem h, List.map_append]
  simp [List.getD_eq_getElem?_getD, h]

set_option maxRecDepth 20000 in
set_option maxHeartbeats 8000000 in
theorem same_walk (A : Option Addr) (c : Nat) (l : List Ox) (w : World) (hlc : l.length ≤ c) (R : OpsAt w w.heap.size A l) (hok : ∀ i, i < l.length → OxOk (l.getD i o0)) :
    Calls Try.prog 7 #[.slice A l.length c] w (Okay w) := by
  have HR := Lib.hid R
  have HOK := Lib.hid hok
  have HLC := Lib.hid hlc
  have hmm := @run_makeMap Try.prog
  clear R hok hlc
  go_enter Try.func7, Try.ntmps7
  by_cases h150 : 150 < l.length
  · go_wp2_with (fail)
    refine (known_any _).mono ?_
    rintro e w1 ⟨rfl, hb1⟩
    go_wp2
    go_ret
    exact ⟨rfl, hb1⟩
  · go_wp2_with (fail)
    refine (known_any _).mono ?_
    rintro e w1 ⟨rfl, hb1⟩
    have HB1 := Lib.hid hb1
    clear hb1
    go_wp2_with (fail)
    refine (lnew_any _).mono ?_
    rintro e w2 ⟨f, rfl, hf, hl, hb⟩
    have HB2 := Lib.hid (HB1.out.trans (hb.mono HB1.out.size))
    have HF : Hid (∀ i, f.S i → w.heap.size ≤ i) := fun i hi => Nat.le_trans HB1.out.size (hf i hi)
    have HL := Lib.hid hl
    clear hf hl hb
    go_wp2_with (fail)
    refine (rnew_any _).mono ?_
    rintro e w3 ⟨g, rfl, hg, hr, hb⟩
    have hmr : MR w w3 f g 0 [] [] := ⟨HL.out.below hb, hr, HB2.out.trans (hb.mono HB2.out.size), HF.out, Nat.le_trans HB2.out.size hg, Nat.le_refl _⟩
    have HMR := Lib.hid hmr
    clear hg hr hb hmr HL HB1 HB2 HF
    go_wp2_with (fail)
    have hzs : Zs w (w3.alloc (.map #[] 0)) f g 0 w3.heap.size 0 [] [] [] :=
      ⟨HMR.out.alloc _, MapF.made _ _ _, HMR.out.bl.size, ⟨fun e => by have := HMR.out.lm.lt e; omega, fun e => by have := HMR.out.rm.lt; omega⟩, fun p hp => absurd hp (by simp)⟩
    have HZS := Lib.hid hzs
    clear hzs HMR
    generalize w3.alloc (.map #[] 0) = w4 at *
    generalize w3.heap.size = bz at *
    go_wp2_with (fail)
    go_loopw [6] (fun i wr => ∃ (k : Nat) (L M : List Pl), k ≤ l.length ∧ i = .int .i64 k ∧ Hid (Zs w wr f g (3 * k) bz k L M (zonesOf l k))) (fun i _ => l.length - (intOf i).toNat)
    case atStart => exact ⟨0, [], [], Nat.zero_le _, rfl, HZS⟩
    case round =>
      obtain ⟨k, L, M, hk, rfl, hz⟩ := hrel
      by_cases hlt : k < l.length
      · obtain ⟨ad, rfl, hadb, hat⟩ := HR.out k hlt
        obtain ⟨c0, c1, c2, c3, c4⟩ := hat.below hz.out.mr.bl (by rw [block_of_add]; exact hadb)
        have HAD : Hid ((ad.add (k * 5)).block < w.heap.size) := by rw [block_of_add]; exact hadb
        have HAT0 := Lib.hid hat
        have HOX := Lib.hid (HOK.out k hlt)
        have HZ1 := Lib.hid (zonesOf_succ l k hlt)
        generalize l.getD k o0 = x at *
        have HD := Lib.hid (hz.out.does x HOX.out (by omega))
        unfold opV at HD
        clear hat hadb HZS
        go_wp2_with (fail)
        refine HD.out.mono ?_
        rintro e w5 ⟨rfl, hm5, hzm5⟩
        have HM5 : Hid (MR w w5 f g (3 * (k + 1)) (stepL x L) (stepR x M)) := hm5
        have HZM5 := Lib.hid hzm5
        clear hm5 hzm5 c0 c1 c2 c3 c4 HD
        obtain ⟨c0, c1, c2, c3, c4⟩ := HAT0.out.below HM5.out.bl HAD.out
        have HKL : Hid (k < maxLen) := by unfold Hid maxLen; omega
        go_wp2_with (first
          | (refine wpList_mapF_store rfl _ _ _ _ 3 rfl HZM5.out Try.underlying51 HKL.out x.p.z HOX.out.2.1 (1 : Int) (oneAt (zonesOf l k ++ [x.p.z])) (oneAt_snoc _ _) (fun c hc => oneAt_other _ _ _ hc) rfl rfl rfl ?_
             intro w6 hz6 hk6
             have HZ6 : Hid (Zs w w6 f g (3 * (k + 1)) bz (k + 1) (stepL x L) (stepR x M) (zonesOf l (k + 1))) := by
               refine ⟨HM5.out.kp_map HZM5.out.is_map hz.out.hz hz.out.dz hk6, by rw [HZ1.out]; exact hz6, hz.out.hz, hz.out.dz, fun p hp => ?_⟩
               rw [HZ1.out, List.mem_append, List.mem_singleton]
               rcases stepL_mem hp with rfl | hp
               · exact .inr rfl
               · exact .inl (hz.out.cov p hp)
             clear hz6 hk6))
        exact ⟨⟨k + 1, _, _, hlt, by go_num, HZ6⟩, by simp [intOf]; omega⟩
      · have hkl : (k : Int) = l.length := by omega
        have HN : Hid (3 * k ≤ 1000 ∧ k ≤ 150) := by unfold Hid; omega
        have HZL : Hid (zonesOf l k = zonesOf l l.length) := by unfold Hid; rw [show k = l.length by omega]
        clear HZS
        generalize hzl : zonesOf l k = zl at *
        clear hzl
        generalize hn3 : 3 * k = n at *
        clear hn3
        obtain ⟨W5, rfl⟩ : ∃ W5, W5 = wr := ⟨_, rfl⟩
        go_wp2_with (fail)
        refine (lall_any W5 f n L (by have := HN.out; omega) hz.out.mr.lm).mono ?_
        rintro e w6 ⟨A6, c6, S6, rfl, ho6, hp6, hr6, hb6⟩
        have HZ6 := Lib.hid (hz.out.below hb6)
        have HRW6 := Lib.hid ho6.row
        have HP6 := Lib.hid hp6
        have HU6 := Lib.hid (hz.out.mr.lm.uniq.perm hp6.symm)
        have HOK6 : Hid (∀ p ∈ S6, NameOk p.n ∧ AddrOk p.a) := fun p hp => hz.out.mr.lm.names p (hp6.mem_iff.1 hp)
        have HS6 : Hid (S6.length ≤ 1000) := by
          have h1 := hp6.length_eq
          have h2 := hz.out.mr.lm.len
          have h3 := HN.out.1
          unfold Hid
          omega
        have HSM := Lib.hid (Sm.start w6 S6)
        clear ho6 hp6 hr6 hb6 hz
        go_wp2_with (fail)
        generalize (w6.alloc (.map #[] 0)).alloc (.map #[] 0) = w7 at *
        clear hmm
        generalize w6.heap.size = bc at *
        generalize bc + 1 = bp at *
        have HMS : Hid (∀ j, j < S6.length → S6.getD j p0 ∈ L ∧ S6.getD j p0 ∈ S6) := fun j hj => ⟨HP6.out.mem_iff.1 (mem_getD hj), mem_getD hj⟩
        obtain ⟨m, hm6⟩ : ∃ m, S6.length = m := ⟨_, rfl⟩
        rw [hm6] at HS6 ⊢
        have HM6 := Lib.hid hm6
        clear hm6
        go_loopw [10] (fun i wr => ∃ j : Nat, j ≤ m ∧ i = .int .i64 j ∧ Hid (Sm w6 wr bc bp j j S6)) (fun i _ => m - (intOf i).toNat)
        case atStart => exact ⟨0, Nat.zero_le _, rfl, HSM⟩
        case round =>
          obtain ⟨j, hj, rfl, hs⟩ := hrel
          clear HSM
          by_cases hlt : j < m
          · have HLT := Lib.hid hlt
            have hm1000 : m ≤ 1000 := HS6.out
            have hjl : j < S6.length := by rw [HM6.out]; exact hlt
            obtain ⟨r, rfl, hrl, a0, a1, a2, a3⟩ := hs.out.row HRW6.out hjl
            obtain ⟨hxL, hxS⟩ := HMS.out j hjl
            obtain ⟨x, hx⟩ : ∃ x, S6.getD j p0 = x := ⟨_, rfl⟩
            rw [hx] at a0 a1 a2 a3 hxL hxS
            have HX := Lib.hid hx
            have HXL := Lib.hid hxL
            have HXS := Lib.hid hxS
            clear hx hxL hxS hjl
            go_upto_region 17 with (fail)
            go_cut [11, 12] from 59 to 130 (fun s11 s12 wc => ∃ b11 : Nat, s11 = .pointer (some ⟨b11, 0, none⟩) ∧ s12 = .bool true ∧ Hid (Sm w6 wc bc bp j j S6) ∧ Hid (Blk wc b11 31 #[.int .i64 x.z, .int .i64 x.k]))
            case first =>
              have HG1 := Lib.hid ((hs.out.drew).get HZ6.out HXL.out)
              have HG2 := Lib.hid (((hs.out.alloc (.cells #[.int .i64 0, .int .i64 0] 31)).drew).get HZ6.out HXL.out)
              have HS2 := Lib.hid ((hs.out.alloc (.cells #[.int .i64 0, .int .i64 0] 31)).drew)
              have HA2 := Lib.hid ((Blk.new wr 31 #[.int .i64 0, .int .i64 0]).drew)
              have HRB : Hid (r < wr.heap.size) := Nat.lt_of_lt_of_le hrl hs.out.bl.size
              have ks : wr.cell? ⟨r, j * 4, none⟩ = some (.int .u32 x.t) ∧ wr.cell? ⟨r, j * 4 + 1, none⟩ = some (.int .u64 x.b) := ⟨a0, a1⟩
              have kal : ∀ (u : World) (ob : Obj), (u.cell? ⟨r, j * 4, none⟩ = some (.int .u32 x.t) ∧ u.cell? ⟨r, j * 4 + 1, none⟩ = some (.int .u64 x.b)) → (u.alloc ob).cell? ⟨r, j * 4, none⟩ = some (.int .u32 x.t) ∧ (u.alloc ob).cell? ⟨r, j * 4 + 1, none⟩ = some (.int .u64 x.b) :=
                fun u ob h => ⟨(World.cell?_alloc_some _ _ _ (by rw [h.1]; rfl)).trans h.1, (World.cell?_alloc_some _ _ _ (by rw [h.2]; rfl)).trans h.2⟩
              have HKAL := Lib.hid kal
              have ks1 : (wr.alloc (.cells #[.int .i64 0, .int .i64 0] 31)).drew.cell? ⟨r, j * 4, none⟩ = some (.int .u32 x.t) ∧ (wr.alloc (.cells #[.int .i64 0, .int .i64 0] 31)).drew.cell? ⟨r, j * 4 + 1, none⟩ = some (.int .u64 x.b) := kal wr _ ⟨a0, a1⟩
              clear a0 a1 a2 a3 kal
              go_region_held3 (fun u => u.cell? ⟨r, j * 4, none⟩ = some (.int .u32 x.t) ∧ u.cell? ⟨r, j * 4 + 1, none⟩ = some (.int .u64 x.b))
                (first | exact ks | exact ks1 | exact ks2 | exact ks3 | exact ks4)
                (first
                  | (go_at_call 14
                     with_reducible refine HG1.out.mono ?_
                     rintro e w8 ⟨rfl, hb⟩
                     have ks2 : w8.cell? ⟨r, j * 4, none⟩ = some (.int .u32 x.t) ∧ w8.cell? ⟨r, j * 4 + 1, none⟩ = some (.int .u64 x.b) := ⟨below_keep hb ks.1, below_keep hb ks.2⟩
                     have ks3 := HKAL.out w8 (.cells #[.int .i64 0, .int .i64 0] 31) ks2
                     have ks4 := HKAL.out w8 (.cells #[.int .i64 x.z, .int .i64 x.k] 31) ks2
                     have HS8 := Lib.hid (hs.out.drew.below hb)
                     clear hb)
                  | (go_at_call 14
                     with_reducible refine HG2.out.mono ?_
                     rintro e w8 ⟨rfl, hb⟩
                     have ks2 : w8.cell? ⟨r, j * 4, none⟩ = some (.int .u32 x.t) ∧ w8.cell? ⟨r, j * 4 + 1, none⟩ = some (.int .u64 x.b) := ⟨below_keep hb ks1.1, below_keep hb ks1.2⟩
                     have hba := HA2.out.below hb HA2.out.lt
                     have hd0 : w8.cell? ⟨wr.heap.size, 0, none⟩ = some (.int .i64 0) := hba.cell 0
                     have hd1 : w8.cell? ⟨wr.heap.size, 1, none⟩ = some (.int .i64 0) := hba.cell 1
                     have hf : ∀ i, w8.frozen? ⟨wr.heap.size, i, none⟩ = false := fun i => hba.frozen i
                     have ks3 : ((w8.setCell ⟨wr.heap.size, 0, none⟩ (.int .i64 x.z)).setCell ⟨wr.heap.size, 1, none⟩ (.int .i64 x.k)).cell? ⟨r, j * 4, none⟩ = some (.int .u32 x.t) ∧ ((w8.setCell ⟨wr.heap.size, 0, none⟩ (.int .i64 x.z)).setCell ⟨wr.heap.size, 1, none⟩ (.int .i64 x.k)).cell? ⟨r, j * 4 + 1, none⟩ = some (.int .u64 x.b) := by
                       have hrw := HRB.out
                       refine ⟨?_, ?_⟩
                       · rw [World.cell?_setCell_other _ _ _ _ (fun e => by have e' := congrArg Addr.block e; simp at e'; omega), World.cell?_setCell_other _ _ _ _ (fun e => by have e' := congrArg Addr.block e; simp at e'; omega)]; exact ks2.1
                       · rw [World.cell?_setCell_other _ _ _ _ (fun e => by have e' := congrArg Addr.block e; simp at e'; omega), World.cell?_setCell_other _ _ _ _ (fun e => by have e' := congrArg Addr.block e; simp at e'; omega)]; exact ks2.2
                     have ks4 := ks3
                     have HS8 := Lib.hid (HS2.out.below hb)
                     have HB8 := Lib.hid hba
                     clear hb hba))
              · go_wp2
                go_meet
                case rel => exact ⟨_, rfl, rfl, HS8.out.alloc _, Blk.new _ _ _⟩
              · go_wp2
                go_meet
                case rel =>
                  refine ⟨_, rfl, rfl, HS8.out.kp (X := fun i => i = wr.heap.size) (kp_set2 (Kp.refl (fun i => i = wr.heap.size) w8) (.inl rfl) _ _) ?_, blk_set2 HB8.out _ _⟩
                  rintro i rfl
                  exact ⟨hs.out.bl.size, _, _, _, HB8.out⟩
            case rest =>
              obtain ⟨b11, rfl, rfl, hsc, hbc⟩ := hcut
              clear hs a0 a1 a2 a3
              have hjl : j < S6.length := by rw [HM6.out]; exact HLT.out
              obtain ⟨r', hr', hrl', a0, a1, a2, a3⟩ := hsc.out.row HRW6.out hjl
              obtain rfl : r = r' := by simpa using hr'
              rw [HX.out] at a0 a1 a2 a3
              clear hr' hrl'
              go_wp2_with (fail)
              refine (hsc.out.at_ HZ6.out HXL.out).mono ?_
              rintro e w9 ⟨rfl, hb⟩
              have HS9 := Lib.hid (hsc.out.below hb)
              have HB9 := Lib.hid (hbc.out.below hb hbc.out.lt)
              clear hb hsc hbc a0 a1 a2 a3
              go_upto_region 19 with (fail)
              have HS10 := Lib.hid (HS9.out.alloc (.cells #[.int .u32 x.t, .int .u64 x.b, .int .i64 x.z, .int .i64 x.k] 33))
              have HB11 := Lib.hid (HB9.out.alloc (.cells #[.int .u32 x.t, .int .u64 x.b, .int .i64 x.z, .int .i64 x.k] 33))
              have HB13 := Lib.hid (Blk.new w9 33 #[.int .u32 x.t, .int .u64 x.b, .int .i64 x.z, .int .i64 x.k])
              clear HS9 HB9
              generalize w9.alloc (.cells #[.int .u32 x.t, .int .u64 x.b, .int .i64 x.z, .int .i64 x.k] 33) = w10 at *
              generalize w9.heap.size = b13 at *
              obtain ⟨_, hr', _, a0, a1, a2, a3⟩ := HS10.out.row HRW6.out hjl
              cases hr'
              rw [HX.out] at a0 a1 a2 a3
              have hfr := fresh_place HU6.out hjl
              have hsu := places_succ (S := S6) hjl
              have hcu := fun t => cnt_take_succ S6 t j hjl
              rw [HX.out] at hfr hsu
              simp only [HX.out] at hcu
              have HFR := Lib.hid hfr
              have HSU := Lib.hid hsu
              have HCU := Lib.hid hcu
              clear hfr hsu hcu hjl
              have e1 : (Instr.lookup 53 (.map (some bp)) (.agg #[.int .i64 x.z, .int .i64 x.k]) false).run Try.prog w10.drew = .ok (.int .i64 0) w10.drew := by
                have := HS10.out.drew.ps.look (t := 53) (e := 3) Try.underlying53 (z := .int .i64 0) (by kernel_rfl) (a := x.a) (HOK6.out x HXS.out).2 false
                refine this.trans ?_
                rw [show oneAt ((S6.take j).map Pl.a) x.a = none from if_neg HFR.out]
                rfl
              have ks : (w10.cell? ⟨b11, 0, none⟩ = some (.int .i64 x.z) ∧ w10.cell? ⟨b11, 1, none⟩ = some (.int .i64 x.k)) ∧ (w10.cell? ⟨b13, 0, none⟩ = some (.int .u32 x.t) ∧ w10.cell? ⟨b13, 1, none⟩ = some (.int .u64 x.b) ∧ w10.cell? ⟨b13, 2, none⟩ = some (.int .i64 x.z) ∧ w10.cell? ⟨b13, 3, none⟩ = some (.int .i64 x.k)) ∧
                  (w10.cell? ⟨r, j * 4, none⟩ = some (.int .u32 x.t) ∧ w10.cell? ⟨r, j * 4 + 1, none⟩ = some (.int .u64 x.b) ∧ w10.cell? ⟨r, j * 4 + 2, none⟩ = some (.int .i64 x.z) ∧ w10.cell? ⟨r, j * 4 + 3, none⟩ = some (.int .i64 x.k)) :=
                ⟨⟨HB11.out.cell 0, HB11.out.cell 1⟩, ⟨HB13.out.cell 0, HB13.out.cell 1, HB13.out.cell 2, HB13.out.cell 3⟩, a0, a1, a2, a3⟩
              clear a0 a1 a2 a3
              go_region_held3 (fun u => (u.cell? ⟨b11, 0, none⟩ = some (.int .i64 x.z) ∧ u.cell? ⟨b11, 1, none⟩ = some (.int .i64 x.k)) ∧ (u.cell? ⟨b13, 0, none⟩ = some (.int .u32 x.t) ∧ u.cell? ⟨b13, 1, none⟩ = some (.int .u64 x.b) ∧ u.cell? ⟨b13, 2, none⟩ = some (.int .i64 x.z) ∧ u.cell? ⟨b13, 3, none⟩ = some (.int .i64 x.k)) ∧
                  (u.cell? ⟨r, j * 4, none⟩ = some (.int .u32 x.t) ∧ u.cell? ⟨r, j * 4 + 1, none⟩ = some (.int .u64 x.b) ∧ u.cell? ⟨r, j * 4 + 2, none⟩ = some (.int .i64 x.z) ∧ u.cell? ⟨r, j * 4 + 3, none⟩ = some (.int .i64 x.k)))
                (exact ks)
                (fail)
              have HS11 := Lib.hid HS10.out.drew
              have HB2 := Lib.hid (And.intro HB11.out.drew HB13.out.drew)
              clear ks e1 HS10 HB11 HB13
              generalize w10.drew = w11 at *
              have d0 : w11.cell? ⟨b11, 0, none⟩ = some (.int .i64 x.z) := HB2.out.1.cell 0
              have d1 : w11.cell? ⟨b11, 1, none⟩ = some (.int .i64 x.k) := HB2.out.1.cell 1
              have HJM : Hid (j < maxLen) := by unfold Hid maxLen; omega
              have HO1 : Hid (oneAt ((S6.take (j + 1)).map Pl.a) x.a = some 1 ∧ ∀ c, c ≠ x.a → oneAt ((S6.take (j + 1)).map Pl.a) c = oneAt ((S6.take j).map Pl.a) c) := by
                rw [HSU.out]
                exact ⟨oneAt_snoc _ _, fun c hc => oneAt_other _ _ _ hc⟩
              go_wp2_with (first
                | (refine wpList_mapF_store rfl _ _ _ _ 3 rfl HS11.out.ps Try.underlying53 HJM.out x.a (HOK6.out x HXS.out).2 (1 : Int) (oneAt ((S6.take (j + 1)).map Pl.a)) HO1.out.1 HO1.out.2 rfl rfl rfl ?_
                   intro w12 hp12 hk12
                   have HS12 := Lib.hid (HS11.out.place hp12 hk12)
                   clear hp12 hk12 d0 d1))
              have hjl : j < S6.length := by rw [HM6.out]; exact HLT.out
              obtain ⟨_, hr', _, a0, a1, a2, a3⟩ := HS12.out.row HRW6.out hjl
              cases hr'
              rw [HX.out] at a0 a1 a2 a3
              obtain ⟨C, hC1, hC2⟩ := HS12.out.drew.cs
              obtain ⟨cn, hcn⟩ : ∃ cn : Nat, cn = cnt (S6.take j) x.t := ⟨_, rfl⟩
              have hcl : cn ≤ 1000 := by
                have h1 := cnt_le (S6.take j) x.t
                have h2 : (S6.take j).length ≤ j := by simp; omega
                omega
              have e1 : (Instr.lookup 52 (.map (some bc)) (.int .u32 x.t) false).run Try.prog w12.drew = .ok (.int .u64 (cn : Int)) w12.drew := by
                have := hC1.look (t := 52) (e := 29) Try.underlying52 (z := .int .u64 0) (by kernel_rfl) (a := x.t) (HOK6.out x HXS.out).1.1 false
                refine this.trans ?_
                rw [hcn, ← hC2 x.t]
                cases C x.t <;> rfl
              obtain ⟨w13, e2, hm13, ht13⟩ := hC1.store (t := 52) (e := 29) Try.underlying52 HJM.out (a := x.t) (HOK6.out x HXS.out).1.1 ((cn : Int) + 1) (fun t => if t = x.t then some ((cn : Int) + 1) else C t) (if_pos rfl) (fun c hc => if_neg hc)
              change (Instr.mapUpdate 52 (.map (some bc)) (.int .u32 x.t) (.int .u64 ((cn : Int) + 1))).run Try.prog w12.drew = .ok () w13 at e2
              have hk13 := grownBy_kp ht13.grown
              have HS13 : Hid (Sm w6 w13 bc bp (j + 1) (j + 1) S6) := HS12.out.drew.tally hm13 (fun t => by
                rw [HCU.out t]
                by_cases ht : x.t = t
                · subst ht
                  simp [hcn]
                · have ht' : ¬ t = x.t := fun e => ht e.symm
                  rw [if_neg ht', if_neg ht]
                  exact hC2 t) hk13
              obtain ⟨_, hr', _, b0, _, _, _⟩ := HS13.out.row HRW6.out hjl
              cases hr'
              rw [HX.out] at b0
              have hcle : (cn : Int) + 1 ≤ 1001 := by omega
              have hwr : IntKind.u64.wrap ((cn : Int) + 1) = (cn : Int) + 1 := IntWalk.u64_in _ (by omega)
              clear a1 a2 a3 hC1 hC2 hm13 ht13 hk13 hjl hcn hcl
              go_region_held3 (fun u => u.cell? ⟨r, j * 4, none⟩ = some (.int .u32 x.t))
                (first | exact a0 | exact b0)
                (fail)
              clear e1 e2 a0 b0 hwr hcle HS12 HS11 HB2
              go_wp2
              go_roundw
              case rel => exact ⟨j + 1, HLT.out, by go_num, HS13⟩
              case measure => have := HLT.out; simp [intOf]; omega
          · have hjm : j = m := by omega
            subst hjm
            clear hj hlt
            have HTK : Hid (S6.take j = S6) := by unfold Hid; rw [← HM6.out, List.take_length]
            go_wp2_with (fail)
            go_loopw [15] (fun i w8 => ∃ q : Nat, q ≤ j ∧ i = .int .i64 q ∧ Hid (Sm w6 w8 bc bp j j S6)) (fun i _ => j - (intOf i).toNat)
            case atStart => exact ⟨0, Nat.zero_le _, rfl, hs⟩
            case round =>
              obtain ⟨q, hq, rfl, hs8⟩ := hrel
              clear hs
              by_cases hlt : q < j
              · have HLT := Lib.hid hlt
                have hm1000 : j ≤ 1000 := HS6.out
                have hql : q < S6.length := by rw [HM6.out]; exact hlt
                obtain ⟨r, rfl, hrl, a0, a1, a2, a3⟩ := hs8.out.row HRW6.out hql
                obtain ⟨hxL, hxS⟩ := HMS.out q hql
                obtain ⟨x, hx⟩ : ∃ x, S6.getD q p0 = x := ⟨_, rfl⟩
                rw [hx] at a0 a1 a2 a3 hxL hxS
                have hlk : ∀ u, Sm w6 u bc bp j j S6 → (Instr.lookup 52 (.map (some bc)) (.int .u32 x.t) false).run Try.prog u = .ok (.int .u64 (cnt L x.t : Nat)) u := fun u hu => by
                  obtain ⟨C, hC1, hC2⟩ := hu.cs
                  have := hC1.look (t := 52) (e := 29) Try.underlying52 (z := .int .u64 0) (by kernel_rfl) (a := x.t) (HOK6.out x hxS).1.1 false
                  refine this.trans ?_
                  have h2 := hC2 x.t
                  rw [HTK.out, cnt_perm HP6.out] at h2
                  rw [← h2]
                  cases C x.t <;> rfl
                obtain ⟨ct, hct⟩ : ∃ ct, cnt L x.t = ct := ⟨_, rfl⟩
                rw [hct] at hlk
                have HLK := Lib.hid hlk
                have HCN := Lib.hid ((hs8.out.drew).count (t := x.t) HZ6.out (HOK6.out x hxS).1.1 hct)
                have e1 := hlk _ hs8.out.drew
                clear hx hxL hxS hql hlk hct a1 a2 a3
                go_upto_region 26 with (fail)
                go_region_held3 (fun u => u.cell? ⟨r, q * 4, none⟩ = some (.int .u32 x.t))
                  (first | exact a0 | exact a2)
                  (first
                    | (go_at_call 15
                       with_reducible refine HCN.out.mono ?_
                       rintro e w9 ⟨rfl, hb⟩
                       have a2 := below_keep hb a0
                       have HS9 := Lib.hid (hs8.out.drew.below hb)
                       have e2 := HLK.out w9 HS9.out
                       clear hb))
                all_goals
                  clear a0 e1
                  go_wp2
                  go_roundw
                  case rel => exact ⟨q + 1, HLT.out, by go_num, HS9⟩
                  case measure => have := HLT.out; simp [intOf]; omega
              · obtain rfl : j = q := by omega
                have HZ8 := Lib.hid (HZ6.out.below hs8.out.bl).zd
                have HCOV := Lib.hid (HZ6.out.cov)
                have HNL : Hid (L.length ≤ 1000) := by
                  have h1 := HP6.out.length_eq
                  have h2 := HM6.out
                  have h3 := HS6.out
                  unfold Hid
                  omega
                have HLJ : Hid (L.length = j) := by rw [← HM6.out]; exact HP6.out.length_eq.symm
                clear hs8 hq hlt HRW6 HP6 HU6 HOK6 HMS HM6 HTK HZ6
                go_wp2_with (fail)
                go_loopw [16, 17] (fun s i w9 => ∃ (q nz : Nat), q ≤ l.length ∧ nz = k + q ∧ i = .int .i64 q ∧ s = .int .i64 (seen (zonesOf l q) L : Nat) ∧ Hid (Zd w w9 f g n bz nz L M zl (zonesOf l q))) (fun _ i _ => l.length - (intOf i).toNat)
                case atStart => exact ⟨0, k, Nat.zero_le _, rfl, rfl, by simp [seen, zonesOf], HZ8⟩
                case round =>
                  obtain ⟨q, nz, hq, hnz, rfl, rfl, hz⟩ := hrel
                  clear HZ8
                  have hqk := HN.out
                  by_cases hlt : q < l.length
                  · have HLT := Lib.hid hlt
                    obtain ⟨ad, rfl, hadb, hat⟩ := HR.out q hlt
                    obtain ⟨c0, c1, c2, c3, c4⟩ := hat.below hz.out.mr.bl (by rw [block_of_add]; exact hadb)
                    have HOX := Lib.hid (HOK.out q hlt)
                    have hzs := zonesOf_succ l q hlt
                    obtain ⟨x, hx⟩ : ∃ x, l.getD q o0 = x := ⟨_, rfl⟩
                    rw [hx] at c0 c1 c2 c3 c4 hzs
                    have HOX2 : Hid (OxOk x) := by rw [← hx]; exact HOX.out
                    have HSUC := Lib.hid hzs
                    have HZIN : Hid (x.p.z ∈ zl) := by
                      rw [HZL.out]
                      unfold zonesOf
                      rw [List.take_length]
                      refine List.mem_map.2 ⟨x, ?_, rfl⟩
                      rw [← hx, List.getD_eq_getElem?_getD, List.getElem?_eq_getElem hlt]
                      exact List.getElem_mem hlt
                    have HSE := Lib.hid (seen_le (zonesOf l (q + 1)) L)
                    have HSE0 := Lib.hid (seen_le (zonesOf l q) L)
                    clear hx hzs hat hadb HOX
                    rcases Classical.em (x.p.z ∈ zonesOf l q) with hin | hin
                    · have e1 := hz.out.look (z := x.p.z) HOX2.out.2.1 (v := 0) (by unfold zoneAt; rw [if_pos hin]; rfl)
                      have HSN : Hid (seen (zonesOf l (q + 1)) L = seen (zonesOf l q) L) := by rw [HSUC.out]; exact seen_old _ _ _ hin
                      have HZ9 : Hid (Zd w wr f g n bz (k + (q + 1)) L M zl (zonesOf l (q + 1))) := by
                        have h1 := hz.out.mono (nz' := k + (q + 1)) (by omega)
                        refine ⟨h1.mr, ?_, h1.hz, h1.dz⟩
                        rw [HSUC.out, zoneAt_old hin]
                        exact h1.zs
                      clear hin
                      go_wp2_with (fail)
                      exact ⟨⟨q + 1, _, HLT.out, rfl, by go_num, by rw [HSN.out], HZ9⟩, by have := HLT.out; simp [intOf]; omega⟩
                    · have e1 := hz.out.look (z := x.p.z) HOX2.out.2.1 (v := 1) (by unfold zoneAt oneAt; rw [if_neg hin, if_pos HZIN.out]; rfl)
                      have HSN : Hid (seen (zonesOf l (q + 1)) L = seen (zonesOf l q) L + (ofZ x.p.z L).length) := by rw [HSUC.out]; exact seen_new _ _ _ hin
                      have HNZ : Hid (nz < maxLen) := by unfold Hid maxLen; omega
                      clear hin
                      go_wp2_with (first
                        | (refine wpList_mapF_store rfl _ _ _ _ 3 rfl hz.out.zs Try.underlying51 HNZ.out x.p.z HOX2.out.2.1 (0 : Int) (zoneAt zl (zonesOf l q ++ [x.p.z])) zoneAt_new (fun c hc => zoneAt_other hc) rfl rfl rfl ?_
                           intro w10 hm10 hk10
                           have HZ10 := Lib.hid (hz.out.done_ hm10 hk10)
                           clear hm10 hk10 e1 c0 c1 c2 c3 c4))
                      refine (lin_any w10 f n L x.p.z (by have := HN.out; omega) HZ10.out.mr.lm).mono ?_
                      rintro e w11 ⟨A11, c11, S11, rfl, _, hp11, _, hb11⟩
                      have HZ11 : Hid (Zd w w11 f g n bz (k + (q + 1)) L M zl (zonesOf l (q + 1))) := by
                        have h1 := (HZ10.out.below hb11).mono (nz' := k + (q + 1)) (by omega)
                        rw [HSUC.out]
                        exact h1
                      have hl11 := hp11.length_eq
                      have HSN2 : Hid (seen (zonesOf l (q + 1)) L = seen (zonesOf l q) L + S11.length) := by rw [hl11]; exact HSN.out
                      have hsb : ((seen (zonesOf l q) L : Nat) : Int) + S11.length ≤ 1000 := by
                        have h1 := HSE.out
                        have h2 := HSN2.out
                        have h3 := HNL.out
                        omega
                      clear hp11 hb11 hl11 HZ10 HSN
                      go_wp2
                      go_roundw
                      case rel =>
                        refine ⟨q + 1, k + (q + 1), HLT.out, rfl, by go_num, ?_, HZ11⟩
                        rw [HSN2.out]
                        go_num
                      case measure => have := HLT.out; simp [intOf]; omega
                  · have hql : q = l.length := by omega
                    have hfin : seen (zonesOf l q) L = j := by
                      rw [hql, ← HZL.out, seen_all HCOV.out]
                      exact HLJ.out
                    rw [hfin]
                    have HB := Lib.hid hz.out.mr.bl
                    have hqi : (q : Int) = l.length := by omega
                    clear hfin hql hz hq hnz
                    go_wp2
                    go_ret
                    exact ⟨by simp, HB.out⟩
end Go.Proofs.Ytcbbkemfgnbcpaa
