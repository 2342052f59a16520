/- StoreParts: the walk. -/
import Derived.Test.YtgjcofoicnnnhaaDoorCSl12
import Derived.Test.YtgjcofoicnnnhaaDoorCSl15
import Derived.BigQuiet
namespace Go.Proofs.YtgjcofoicnnnhaaDoor
open Go.RowKit
set_option maxRecDepth 20000

theorem putM_zero {sh : Sh} (hok : sh.ok) {m : StM} {L : List Pv} (h : Good sh m) (h0 : (putM sh m L).1 = 0) : dataM (putM sh m L).2 = L.foldl updD (dataM m) := by
  cases ha : argOk sh L with
  | false => rw [putM_arg ha] at h0; cases h0
  | true => exact ((putM_facts hok h ha).2.2.2.2 h0).1
theorem sh_ext {a b : Sh} (e1 : (a.z : Int) = b.z) (e2 : (a.zb : Int) = b.zb) (e3 : (a.bl : Int) = b.bl) (e4 : (a.rs : Int) = b.rs) : a = b := by
  obtain ⟨a1, a2, a3, a4⟩ := a
  obtain ⟨b1, b2, b3, b4⟩ := b
  simp only at e1 e2 e3 e4
  congr 1 <;> omega
theorem Got.no {sh : Sh} {m : StM} {nm : Int × Int} {w w' : World} {e : Ending} (h : Got sh m nm w e w') (hd : dataM m nm = none) : e = .returned (.tuple #[.slice none 0 0, .bool false]) ∧ Below w.heap.size w w' := ⟨h.1 hd, h.2.2⟩
theorem Got.yes {sh : Sh} {m : StM} {nm : Int × Int} {w w' : World} {e : Ending} {b : List Int} (h : Got sh m nm w e w') (hd : dataM m nm = some b) :
    ∃ A c, e = .returned (.tuple #[.slice A sh.bl c, .bool true]) ∧ Reads w' w'.heap.size 1 A sh.bl (nums .u8 b) ∧ Below w.heap.size w w' := by
  obtain ⟨A, c, e1, h1, h2⟩ := h.2.1 b hd
  have hr := h1.reads
  rw [h2] at hr
  exact ⟨A, c, e1, hr, h.2.2⟩

set_option maxHeartbeats 4000000 in
theorem parts_law (w : World) (z zb bl rs : Int) (hz : -9223372036854775808 ≤ z ∧ z ≤ 9223372036854775807) (hb : -9223372036854775808 ≤ bl ∧ bl ≤ 9223372036854775807) (A : Option Addr) (c : Nat) (l : List Pv) (hc : l.length ≤ c) (hp : PutsAt (fun b => b < w.heap.size) w A l) (hv : ∀ p ∈ l, PvIn p) :
    Calls Tryd.prog 5 #[.agg #[.int .i64 z, .int .i64 zb, .int .i64 bl, .int .i64 rs], .slice A l.length c] w (Makes (.bool true) w) := by
  have HP := Lib.hid hp
  have HV := Lib.hid hv
  have HC := Lib.hid hc
  have HNW := Lib.hid (fun u => snew_any z zb bl rs u hz hb)
  have HK := Lib.hid (fun u => known_any u)
  have hS : Below w.heap.size w (w.alloc (.cells #[.int .i64 z, .int .i64 zb, .int .i64 bl, .int .i64 rs] 23)) := (Below.refl _ _).alloc (Nat.le_refl _) _
  have hO : Below w.heap.size w ((w.alloc (.cells #[.int .i64 z, .int .i64 zb, .int .i64 bl, .int .i64 rs] 23)).alloc (.cells #[.int .u8 0, .slice A l.length c, .int .i64 0] 27)) := hS.alloc hS.size _
  have hg := Blk.new (w.alloc (.cells #[.int .i64 z, .int .i64 zb, .int .i64 bl, .int .i64 rs] 23)) 27 #[.int .u8 0, .slice A l.length c, .int .i64 0]
  simp only [World.size_alloc] at hg
  have HH := Lib.hid (heavy_any _ _ z zb bl rs A c (w.heap.size + 1) l (hp.below hO) hg)
  have HSB : Hid (Blk ((w.alloc (.cells #[.int .i64 z, .int .i64 zb, .int .i64 bl, .int .i64 rs] 23)).alloc (.cells #[.int .u8 0, .slice A l.length c, .int .i64 0] 27)) w.heap.size 23 #[.int .i64 z, .int .i64 zb, .int .i64 bl, .int .i64 rs]) := (Blk.new w _ _).alloc _
  have HB := Lib.hid (And.intro hS hO)
  clear hp hv hc hz hb hS hO hg
  cases hh : heavyM z zb bl l with
  | true =>
    rw [hh] at HH
    simp only [if_true] at HH
    clear hh
    go_enter Tryd.func5, Tryd.ntmps5
    go_wp2_with (fail)
    refine HH.out.mono ?_
    rintro e w2 ⟨rfl, hb2⟩
    have HB2 := Lib.hid (HB.out.2.trans (hb2.mono HB.out.2.size))
    clear hb2
    go_wp2_with (fail)
    refine (HK.out _).mono ?_
    rintro e w3 ⟨rfl, hb3⟩
    have HB3 := Lib.hid (HB2.out.trans (hb3.mono HB2.out.size))
    clear hb3
    go_wp2
    go_ret
    exact ⟨rfl, HB3.out⟩
  | false =>
    rw [hh] at HH
    simp only [Bool.false_eq_true, if_false] at HH
    have HHV := Lib.hid hh
    clear hh
    go_enter Tryd.func5, Tryd.ntmps5
    go_wp2_with (fail)
    refine HH.out.mono ?_
    rintro e w2 ⟨rfl, hb2⟩
    have HB2 := Lib.hid (And.intro (HB.out.2.trans (hb2.mono HB.out.2.size)) (HSB.out.below hb2 HSB.out.lt))
    clear hb2 HH HSB HB
    go_wp2_with (fail)
    refine (HK.out _).mono ?_
    rintro e w3 ⟨rfl, hb3⟩
    have hsb := HB2.out.2.below hb3 HB2.out.2.lt
    have s0 : w3.cell? ⟨w.heap.size, 0, none⟩ = some (.int .i64 z) := hsb.cell 0
    have s1 : w3.cell? ⟨w.heap.size, 1, none⟩ = some (.int .i64 zb) := hsb.cell 1
    have s2 : w3.cell? ⟨w.heap.size, 2, none⟩ = some (.int .i64 bl) := hsb.cell 2
    have s3 : w3.cell? ⟨w.heap.size, 3, none⟩ = some (.int .i64 rs) := hsb.cell 3
    have HB3 := Lib.hid (And.intro (HB2.out.1.trans (hb3.mono HB2.out.1.size)) hsb)
    clear hb3 hsb HB2
    go_wp2_with (fail)
    refine (HNW.out w3).mono ?_
    rintro e w4 ⟨hy, hn, hb4⟩
    have hsb4 := HB3.out.2.below hb4 HB3.out.2.lt
    have HB4 := Lib.hid (And.intro (HB3.out.1.trans (hb4.mono HB3.out.1.size)) (And.intro hsb4 hb4))
    have s0 : w4.cell? ⟨w.heap.size, 0, none⟩ = some (.int .i64 z) := hsb4.cell 0
    have s1 : w4.cell? ⟨w.heap.size, 1, none⟩ = some (.int .i64 zb) := hsb4.cell 1
    have s2 : w4.cell? ⟨w.heap.size, 2, none⟩ = some (.int .i64 bl) := hsb4.cell 2
    have s3 : w4.cell? ⟨w.heap.size, 3, none⟩ = some (.int .i64 rs) := hsb4.cell 3
    have HN4 := Lib.hid (HNW.out w4)
    have HY4 := Lib.hid hy
    have HN3 := Lib.hid hn
    clear hsb4 hb4 hy hn
    cases hr : rightB z zb bl rs with
    | false =>
      have HR := Lib.hid hr
      obtain rfl := HN3.out hr
      clear hr
      go_wp2_with (fail)
      refine HN4.out.mono ?_
      rintro e w5 ⟨_, hn5, hb5⟩
      obtain rfl := hn5 HR.out
      have HB5 : Hid (Below w.heap.size w w5) := HB4.out.1.trans (hb5.mono HB4.out.1.size)
      clear hn5 hb5
      go_wp2
      go_ret
      exact ⟨rfl, HB5.out⟩
    | true =>
      have HR := Lib.hid hr
      obtain ⟨F, sh, rfl, rfl, rfl, rfl, rfl, hst, hown, hgood⟩ := HY4.out hr
      have HST := Lib.hid (And.intro hst hgood)
      clear hr hst hown hgood HY4 HN3
      go_wp2_with (fail)
      refine HN4.out.mono ?_
      rintro e w5 ⟨hy5, _, hb5⟩
      obtain ⟨G, sh2, e1, e2, e3, e4, rfl, hst5, hown5, hgood5⟩ := hy5 HR.out
      obtain rfl : sh2 = sh := sh_ext e1.symm e2.symm e3.symm e4.symm
      have hs5 := HB4.out.2.1.below hb5 HB4.out.2.1.lt
      have HB5 := Lib.hid (And.intro (HB4.out.1.trans (hb5.mono HB4.out.1.size)) (And.intro hs5 hb5))
      have HST5 := Lib.hid hst5
      have s2 : w5.cell? ⟨w.heap.size, 2, none⟩ = some (.int .i64 sh2.bl) := hs5.cell 2
      have hok := hst5.dev.ok
      have hbk := hok.blk
      have HOK := Lib.hid hok
      have HBS := Lib.hid (blocks_any (fun b => b < w.heap.size) w5 sh2.bl (by omega) A c l ((HP.out.below HB5.out.1)) (by have := (heavy_false HHV.out).2.1; omega) (fun p hp => by have := (heavy_false HHV.out).2.2 p hp; omega) (fun b hb => Nat.lt_of_lt_of_le hb HB5.out.1.size))
      clear hy5 e1 e2 e3 e4 hst5 hown5 hgood5 hb5 hs5 hok s0 s1 s3
      go_wp2_with (fail)
      refine HBS.out.mono ?_
      rintro e w6 ⟨A6, c6, O, rfl, hinv⟩
      have hz3 : w.heap.size ≤ w3.heap.size := HB3.out.1.size
      have hz4 : w3.heap.size ≤ w4.heap.size := HB4.out.2.2.size
      have hz5 : w4.heap.size ≤ w5.heap.size := HB5.out.2.2.size
      have hz6 : w5.heap.size ≤ w6.heap.size := hinv.low.size
      have hT : TwoS (fun b => w3.heap.size ≤ b ∧ b < w4.heap.size) (fun b => w4.heap.size ≤ b ∧ b < w5.heap.size) w w6 F G sh2 0 0 (newM sh2 (P0 sh2)) (newM sh2 (P0 sh2)) A6 (O.map (·.p)) := by
        refine ⟨HST.out.1.step (HB5.out.2.2.trans (hinv.low.mono hz5)) (fun b hb => ⟨hb.1, ?_⟩), HST5.out.step hinv.low (fun b hb => ⟨hb.1, ?_⟩), fun b h1 h2 => by omega, fun b h1 => by omega, fun b h1 => by omega,
          hinv.row.puts (fun b h1 h2 => ⟨h2, fun h => by omega, fun h => by omega⟩) (fun q hq => ?_), HB5.out.1.trans (hinv.low.mono (by omega)), fun b hb => ⟨fun h => by omega, fun h => by omega⟩⟩
        · rcases Nat.lt_or_ge b w3.heap.size with h1 | h1
          · exact .inl h1
          · refine .inr (Nat.le_of_not_lt fun h2 => hb.2 ⟨h1, h2⟩)
        · rcases Nat.lt_or_ge b w4.heap.size with h1 | h1
          · exact .inl h1
          · refine .inr (Nat.le_of_not_lt fun h2 => hb.2 ⟨h1, h2⟩)
        · have h := hinv.ok q hq
          exact ⟨h.rd, fun ad e h0 => by
            obtain ⟨ad2, e2, hb, _⟩ := h.rd.2 h0
            obtain rfl := Option.some.inj (e.symm.trans e2)
            rcases h.xd ad e h0 with hx | hx
            · exact ⟨hb, fun h => by omega, fun h => by omega⟩
            · exact ⟨hb, fun h => by omega, fun h => by omega⟩, h.cap⟩
      have hmp := hinv.mp
      rw [List.take_length] at hmp
      rw [hmp] at hT
      have hlen : O.length = (l.map (blockM sh2.bl)).length := by rw [List.length_map]; exact hinv.len
      have hcap := hinv.row.cap
      rw [hlen] at hcap ⊢
      have hvL : ∀ p ∈ l.map (blockM sh2.bl), PvOk p := fun p hp => by
        obtain ⟨q, hq, rfl⟩ := List.mem_map.1 hp
        exact blockM_ok (by omega) ((HV.out q hq).ok (by have := (heavy_false HHV.out).2.2 q hq; omega))
      have hLL : (l.map (blockM sh2.bl)).length ≤ 30 := by rw [List.length_map]; exact (heavy_false HHV.out).2.1
      have HG0 := Lib.hid HST.out.2
      clear hmp hlen hinv hz3 hz4 hz5 hz6 HBS HST HST5 HB3 HB4 HB5 s2
      generalize l.map (blockM sh2.bl) = L at *
      have hputA := put_any _ w6 F sh2 0 (newM sh2 (P0 sh2)) A6 c6 L (by omega) hcap hT.putsA hvL HG0.out (by omega) hT.sa
      have HMA : Hid (Good sh2 (putM sh2 (newM sh2 (P0 sh2)) L).2 ∧ ((putM sh2 (newM sh2 (P0 sh2)) L).1 = 0 → dataM (putM sh2 (newM sh2 (P0 sh2)) L).2 = L.foldl updD (fun _ => none))) := ⟨putM_good HOK.out L HG0.out, fun h => putM_zero HOK.out HG0.out h⟩
      have HPA := Lib.hid hputA
      have HT := Lib.hid hT
      have HVL := Lib.hid hvL
      have HCAP := Lib.hid hcap
      clear hputA hT hvL hcap
      go_wp2_with (fail)
      refine HPA.out.mono ?_
      rintro e w7 ⟨rfl, hst7, hk7⟩
      have HT7 := Lib.hid (HT.out.onA hk7 hst7)
      clear hst7 hk7 HPA
      generalize (putM sh2 (newM sh2 (P0 sh2)) L).2 = ma at *
      generalize (putM sh2 (newM sh2 (P0 sh2)) L).1 = ca at *
      generalize 0 + 5 * L.length = na at *
      go_wp2_with (fail)
      go_loopw [8, 9] (fun s i wr => ∃ (k : Nat) (cb : Int), k ≤ L.length ∧ s = .int .u16 cb ∧ i = .int .i64 k ∧ Hid (∃ Ya Yb mb, TwoS Ya Yb w wr F G sh2 na (5 * k) ma mb A6 L ∧ Good sh2 mb ∧ (cb = 0 → dataM mb = (L.take k).foldl updD (fun _ => none)))) (fun _ i _ => L.length - (intOf i).toNat)
      case atStart => exact ⟨0, 0, Nat.zero_le _, rfl, rfl, _, _, _, HT7.out, HG0.out, fun _ => rfl⟩
      case round =>
        obtain ⟨k, cb, hk, rfl, rfl, hr⟩ := hrel
        by_cases hc : cb = 0
        · subst hc
          by_cases hlt : k < L.length
          · obtain ⟨Ya, Yb, mb, hT8, hgb, hdb⟩ := hr.out
            have HT8 := Lib.hid hT8
            have HGB := Lib.hid (And.intro hgb (hdb rfl))
            have HLT := Lib.hid hlt
            have hwr : IntKind.i64.wrap ((k : Int) + 1) = (k : Int) + 1 := by rw [IntKind.wrap_i64]; omega
            have hsl := run_mid_put A6 L.length c6 k (by have := HCAP.out; omega)
            have hpone := hT8.putsB.one k c6 hlt HCAP.out
            obtain ⟨AK, hAK⟩ : ∃ AK, (if c6 = k then A6 else A6.map (·.add (k * 4))) = AK := ⟨_, rfl⟩
            rw [hAK] at hsl hpone
            have hput := put_any _ wr G sh2 (5 * k) mb AK (c6 - k) [L.getD k pv0] (by simp) (by have := HCAP.out; simp; omega) hpone (fun p hp => by
              obtain rfl := List.mem_singleton.1 hp
              exact HVL.out _ (getD_mem (d := pv0) hlt)) hgb (by simp; omega) hT8.sb
            have HONE : Hid ((putM sh2 mb [L.getD k pv0]).1 = 0 → dataM (putM sh2 mb [L.getD k pv0]).2 = (L.take (k + 1)).foldl updD (fun _ => none)) := fun h => putM_one HOK.out hlt hgb (hdb rfl) h
            have HG8 := Lib.hid (putM_good HOK.out [L.getD k pv0] hgb)
            have HPUT := Lib.hid hput
            clear hput hpone hAK hT8 hgb hdb hr HT HT7
            go_wp2_with (fail)
            refine HPUT.out.mono ?_
            rintro e w8 ⟨rfl, hst8, hk8⟩
            have HN : Hid (∃ Ya Yb mb', TwoS Ya Yb w w8 F G sh2 na (5 * (k + 1)) ma mb' A6 L ∧ Good sh2 mb' ∧ ((putM sh2 mb [L.getD k pv0]).1 = 0 → dataM mb' = (L.take (k + 1)).foldl updD (fun _ => none))) :=
              ⟨_, _, _, HT8.out.onB hk8 (by have e : 5 * k + 5 * [L.getD k pv0].length = 5 * (k + 1) := by simp; omega
                                            rw [e] at hst8; exact hst8), HG8.out, HONE.out⟩
            clear hst8 hk8 HPUT HG8 HONE HGB HT8
            generalize (putM sh2 mb [L.getD k pv0]).1 = cb2 at *
            go_wp2
            go_roundw
            case rel => exact ⟨k + 1, cb2, HLT.out, rfl, by go_num, HN⟩
            case measure => have := HLT.out; simp [intOf]; omega
          · obtain rfl : k = L.length := by omega
            obtain ⟨Ya, Yb, mb, hT8, hgb, hdb⟩ := hr.out
            have hdb' := hdb rfl
            rw [List.take_length] at hdb'
            have HT8 := Lib.hid hT8
            have HGB := Lib.hid (And.intro hgb hdb')
            clear hT8 hgb hdb hdb' hr HT HT7
            obtain ⟨w8, rfl⟩ : ∃ w8, w8 = wr := ⟨_, rfl⟩
            by_cases hca : ca = 0
            · subst hca
              have HDAT : Hid (dataM ma = dataM mb) := (HMA.out.2 rfl).trans HGB.out.2.symm
              go_wp2_with (fail)
              go_loopw [10] (fun i wr => ∃ k : Nat, k ≤ L.length ∧ i = .int .i64 k ∧ Hid (Below w8.heap.size w8 wr)) (fun i _ => L.length - (intOf i).toNat)
              case atStart => exact ⟨0, Nat.zero_le _, rfl, Below.refl _ _⟩
              case round =>
                obtain ⟨k, hk, rfl, hr⟩ := hrel
                by_cases hlt : k < L.length
                · obtain ⟨ad, Ad, cd, rfl, _⟩ := HT8.out.pa k hlt
                  have HLT := Lib.hid hlt
                  obtain ⟨p, hp⟩ : ∃ p, L.getD k pv0 = p := ⟨_, rfl⟩
                  have HEQ := Lib.hid hp
                  have HPV := Lib.hid (HVL.out _ (getD_mem (d := pv0) hlt))
                  rw [hp] at HPV
                  have ks := (HT8.out.below hr.out).two hlt hp
                  have HG1 := Lib.hid (get_any _ wr.drew F sh2 na ma (p.t, p.b) HPV.out.n HMA.out.1 (HT8.out.below hr.out).drew.sa)
                  have HBR := Lib.hid hr.out
                  clear hp hr
                  obtain ⟨wk, rfl⟩ : ∃ wk, wk = wr := ⟨_, rfl⟩
                  cases hd : dataM ma (p.t, p.b) with
                  | none =>
                    have HDa := Lib.hid hd
                    have HDb : Hid (dataM mb (p.t, p.b) = none) := by rw [← HDAT.out]; exact hd
                    clear hd
                    go_wp2_with (fail)
                    go_region_held3 (fun u => u.cell? (ad.add (k * 4)) = some (.int .u32 p.t) ∧ u.cell? ⟨(ad.add (k * 4)).block, (ad.add (k * 4)).off + 1, none⟩ = some (.int .u64 p.b))
                      (first | exact ks | exact ks2)
                      (first
                        | (go_at_call 13
                           with_reducible refine HG1.out.mono ?_
                           rintro e w9 hgot
                           obtain ⟨rfl, hb⟩ := hgot.no HDa.out
                           have hbb := And.intro hb True.intro
                           have ks2 : w9.cell? (ad.add (k * 4)) = some (.int .u32 p.t) ∧ w9.cell? ⟨(ad.add (k * 4)).block, (ad.add (k * 4)).off + 1, none⟩ = some (.int .u64 p.b) := ⟨below_keep hbb.1 ks.1, below_keep hbb.1 ks.2⟩
                           have HBB := Lib.hid hbb
                           clear hgot hbb))
                    all_goals
                      have HB9 : Hid (Below w8.heap.size w8 w9) := HBR.out.trans (((Below.refl _ wk).drew.trans HBB.out.1).mono HBR.out.size)
                      have ks := (HT8.out.below HB9.out).two HLT.out HEQ.out
                      have HG2 := Lib.hid (get_any _ w9.drew G sh2 _ mb (p.t, p.b) HPV.out.n HGB.out.1 (HT8.out.below HB9.out).drew.sb)
                      clear ks2 HBB HG1
                      go_wp2_with (fail)
                      go_region_held3 (fun u => u.cell? (ad.add (k * 4)) = some (.int .u32 p.t) ∧ u.cell? ⟨(ad.add (k * 4)).block, (ad.add (k * 4)).off + 1, none⟩ = some (.int .u64 p.b))
                        (first | exact ks | exact ks2)
                        (first
                          | (go_at_call 13
                             with_reducible refine HG2.out.mono ?_
                             rintro e w10 hgot
                             obtain ⟨rfl, hb⟩ := hgot.no HDb.out
                             have hbb := And.intro hb True.intro
                             have ks2 : w10.cell? (ad.add (k * 4)) = some (.int .u32 p.t) ∧ w10.cell? ⟨(ad.add (k * 4)).block, (ad.add (k * 4)).off + 1, none⟩ = some (.int .u64 p.b) := ⟨below_keep hbb.1 ks.1, below_keep hbb.1 ks.2⟩
                             have HBB := Lib.hid hbb
                             clear hgot hbb))
                      all_goals
                        have HB10 : Hid (Below w8.heap.size w8 w10) := HB9.out.trans (((Below.refl _ w9).drew.trans HBB.out.1).mono HB9.out.size)
                        clear ks ks2 HBB HG2
                        have HX : Hid (cnt ma.L p.t = cnt mb.L p.t) := cnt_same HMA.out.1 HGB.out.1 HDAT.out p.t
                        have HT10 := Lib.hid (HT8.out.below HB10.out)
                        have ks := HT10.out.two HLT.out HEQ.out
                        have kt : w10.cell? (ad.add (k * 4)) = some (.int .u32 p.t) := ks.1
                        have HDN : Hid (∀ n, Below w10.heap.size w10 (w10.drewN n)) := fun n => below_drewN (Below.refl _ _) n
                        have HSM : Hid (∀ n, Calls Tryd.prog 14 #[.slice none 0 0, .slice none 0 0] (w10.drewN n) (fun e w' => e = .returned (.bool true) ∧ w' = w10.drewN n)) := fun n => by
                          have hsm := same_any (w10.drewN n) none 0 0 [] none 0 0 [] Reads.none_ Reads.none_ (fun x hx => by cases hx) (fun x hx => by cases hx)
                          rw [decide_eq_true rfl] at hsm
                          exact hsm.mono (fun e w' h => ⟨h.1, h.2.symm⟩)
                        have HM1 : Hid (∀ n, Calls Tryd.prog 16 #[.pointer (some ⟨F.s, 0, none⟩)] (w10.drewN n) (fun e w' => e = .returned (.pointer (some ⟨F.f.g, 0, none⟩)) ∧ w' = w10.drewN n)) := fun n => (map_any _ (w10.drewN n) F sh2 _ ma (HT10.out.below (HDN.out n)).sa).mono (fun e w' h => ⟨h.1, h.2.symm⟩)
                        have HM2 : Hid (∀ n, Calls Tryd.prog 16 #[.pointer (some ⟨G.s, 0, none⟩)] (w10.drewN n) (fun e w' => e = .returned (.pointer (some ⟨G.f.g, 0, none⟩)) ∧ w' = w10.drewN n)) := fun n => (map_any _ (w10.drewN n) G sh2 _ mb (HT10.out.below (HDN.out n)).sb).mono (fun e w' h => ⟨h.1, h.2.symm⟩)
                        have HC1 := Lib.hid (fun n => lcount_same (w10.drewN n) F.f _ ma.L p.t HPV.out.n.1 (HT10.out.below (HDN.out n)).sa.lm)
                        have HC2 := Lib.hid (fun n => lcount_same (w10.drewN n) G.f _ mb.L p.t HPV.out.n.1 (HT10.out.below (HDN.out n)).sb.lm)
                        have HNX : Hid (∀ n, Below w8.heap.size w8 (w10.drewN n)) := fun n => below_drewN HB10.out n
                        rw [HX.out] at HC1
                        clear HX ks
                        obtain ⟨cx, hcx⟩ : ∃ cx, cnt mb.L p.t = cx := ⟨_, rfl⟩
                        rw [hcx] at HC1 HC2
                        clear hcx
                        go_wp2_with (fail)
                        go_quiet (first
                          | (go_at_call 14; exact Calls.quiet_of_same (HSM.out _))
                          | (go_at_call 16; with_reducible exact Calls.quiet_of_same (HM1.out _))
                          | (go_at_call 16; with_reducible exact Calls.quiet_of_same (HM2.out _))
                          | (go_at_call 17; with_reducible exact Calls.quiet_of_same (HC1.out _))
                          | (go_at_call 17; with_reducible exact Calls.quiet_of_same (HC2.out _)))
                        go_wp2
                        go_roundw
                        case rel => exact ⟨k + 1, HLT.out, by go_num, HNX.out _⟩
                        case measure => have := HLT.out; simp [intOf]; omega
                  | some b =>
                    have HDa := Lib.hid hd
                    have HDb : Hid (dataM mb (p.t, p.b) = some b) := by rw [← HDAT.out]; exact hd
                    clear hd
                    have HPB : Hid (∀ x ∈ b, ByteOk x) := by
                      obtain ⟨kb, hkb, _, hkd⟩ := said_any (L := L) (j := L.length) (by rw [List.take_length]; exact HGB.out.2) HDb.out
                      rw [← hkd]
                      exact (HVL.out _ (getD_mem (d := pv0) hkb)).by_
                    go_wp2_with (fail)
                    go_region_held3 (fun u => u.cell? (ad.add (k * 4)) = some (.int .u32 p.t) ∧ u.cell? ⟨(ad.add (k * 4)).block, (ad.add (k * 4)).off + 1, none⟩ = some (.int .u64 p.b))
                      (first | exact ks | exact ks2)
                      (first
                        | (go_at_call 13
                           with_reducible refine HG1.out.mono ?_
                           rintro e w9 hgot
                           obtain ⟨A9, c9, rfl, hrd, hb⟩ := hgot.yes HDa.out
                           have hbb := And.intro hb hrd
                           have ks2 : w9.cell? (ad.add (k * 4)) = some (.int .u32 p.t) ∧ w9.cell? ⟨(ad.add (k * 4)).block, (ad.add (k * 4)).off + 1, none⟩ = some (.int .u64 p.b) := ⟨below_keep hbb.1 ks.1, below_keep hbb.1 ks.2⟩
                           have HBB := Lib.hid hbb
                           clear hgot hbb))
                    all_goals
                      have HB9 : Hid (Below w8.heap.size w8 w9) := HBR.out.trans (((Below.refl _ wk).drew.trans HBB.out.1).mono HBR.out.size)
                      have HR9 := Lib.hid HBB.out.2
                      have ks := (HT8.out.below HB9.out).two HLT.out HEQ.out
                      have HG2 := Lib.hid (get_any _ w9.drew G sh2 _ mb (p.t, p.b) HPV.out.n HGB.out.1 (HT8.out.below HB9.out).drew.sb)
                      clear ks2 HBB HG1
                      go_wp2_with (fail)
                      go_region_held3 (fun u => u.cell? (ad.add (k * 4)) = some (.int .u32 p.t) ∧ u.cell? ⟨(ad.add (k * 4)).block, (ad.add (k * 4)).off + 1, none⟩ = some (.int .u64 p.b))
                        (first | exact ks | exact ks2)
                        (first
                          | (go_at_call 13
                             with_reducible refine HG2.out.mono ?_
                             rintro e w10 hgot
                             obtain ⟨A0, c0, rfl, hrd, hb⟩ := hgot.yes HDb.out
                             have hbb := And.intro hb hrd
                             have ks2 : w10.cell? (ad.add (k * 4)) = some (.int .u32 p.t) ∧ w10.cell? ⟨(ad.add (k * 4)).block, (ad.add (k * 4)).off + 1, none⟩ = some (.int .u64 p.b) := ⟨below_keep hbb.1 ks.1, below_keep hbb.1 ks.2⟩
                             have HBB := Lib.hid hbb
                             clear hgot hbb))
                      all_goals
                        have HB10 : Hid (Below w8.heap.size w8 w10) := HB9.out.trans (((Below.refl _ w9).drew.trans HBB.out.1).mono HB9.out.size)
                        have HR0 := Lib.hid HBB.out.2
                        have h910 : Below w9.heap.size w9 w10 := (Below.refl _ w9).drew.trans HBB.out.1
                        have HR9' := Lib.hid ((HR9.out.below h910).more h910.size)
                        clear ks ks2 HBB HG2 h910
                        have HX : Hid (cnt ma.L p.t = cnt mb.L p.t) := cnt_same HMA.out.1 HGB.out.1 HDAT.out p.t
                        have HT10 := Lib.hid (HT8.out.below HB10.out)
                        have ks := HT10.out.two HLT.out HEQ.out
                        have kt : w10.cell? (ad.add (k * 4)) = some (.int .u32 p.t) := ks.1
                        have HDN : Hid (∀ n, Below w10.heap.size w10 (w10.drewN n)) := fun n => below_drewN (Below.refl _ _) n
                        have HSM : Hid (∀ n, Calls Tryd.prog 14 #[.slice A9 sh2.bl c9, .slice A0 sh2.bl c0] (w10.drewN n) (fun e w' => e = .returned (.bool true) ∧ w' = w10.drewN n)) := fun n => by
                          have hsm := same_any (w10.drewN n) A9 sh2.bl c9 b A0 sh2.bl c0 b (HR9'.out.drewN n) (HR0.out.drewN n) HPB.out HPB.out
                          rw [decide_eq_true rfl] at hsm
                          exact hsm.mono (fun e w' h => ⟨h.1, h.2.symm⟩)
                        have HM1 : Hid (∀ n, Calls Tryd.prog 16 #[.pointer (some ⟨F.s, 0, none⟩)] (w10.drewN n) (fun e w' => e = .returned (.pointer (some ⟨F.f.g, 0, none⟩)) ∧ w' = w10.drewN n)) := fun n => (map_any _ (w10.drewN n) F sh2 _ ma (HT10.out.below (HDN.out n)).sa).mono (fun e w' h => ⟨h.1, h.2.symm⟩)
                        have HM2 : Hid (∀ n, Calls Tryd.prog 16 #[.pointer (some ⟨G.s, 0, none⟩)] (w10.drewN n) (fun e w' => e = .returned (.pointer (some ⟨G.f.g, 0, none⟩)) ∧ w' = w10.drewN n)) := fun n => (map_any _ (w10.drewN n) G sh2 _ mb (HT10.out.below (HDN.out n)).sb).mono (fun e w' h => ⟨h.1, h.2.symm⟩)
                        have HC1 := Lib.hid (fun n => lcount_same (w10.drewN n) F.f _ ma.L p.t HPV.out.n.1 (HT10.out.below (HDN.out n)).sa.lm)
                        have HC2 := Lib.hid (fun n => lcount_same (w10.drewN n) G.f _ mb.L p.t HPV.out.n.1 (HT10.out.below (HDN.out n)).sb.lm)
                        have HNX : Hid (∀ n, Below w8.heap.size w8 (w10.drewN n)) := fun n => below_drewN HB10.out n
                        rw [HX.out] at HC1
                        clear HX ks
                        obtain ⟨cx, hcx⟩ : ∃ cx, cnt mb.L p.t = cx := ⟨_, rfl⟩
                        rw [hcx] at HC1 HC2
                        clear hcx
                        go_wp2_with (fail)
                        go_quiet (first
                          | (go_at_call 14; exact Calls.quiet_of_same (HSM.out _))
                          | (go_at_call 16; with_reducible exact Calls.quiet_of_same (HM1.out _))
                          | (go_at_call 16; with_reducible exact Calls.quiet_of_same (HM2.out _))
                          | (go_at_call 17; with_reducible exact Calls.quiet_of_same (HC1.out _))
                          | (go_at_call 17; with_reducible exact Calls.quiet_of_same (HC2.out _)))
                        go_wp2
                        go_roundw
                        case rel => exact ⟨k + 1, HLT.out, by go_num, HNX.out _⟩
                        case measure => have := HLT.out; simp [intOf]; omega
                · have HE : Hid (Below w.heap.size w wr) := HT8.out.low.trans (hr.out.mono HT8.out.low.size)
                  have hjl : (k : Int) = L.length := by omega
                  clear hr
                  go_wp2
                  go_ret
                  exact ⟨rfl, HE.out⟩
            · have HE := Lib.hid HT8.out.low
              go_wp2
              go_ret
              exact ⟨rfl, HE.out⟩
        · obtain ⟨Ya, Yb, mb, hT8, hgb, hdb⟩ := hr.out
          have HE := Lib.hid hT8.low
          clear hT8 hgb hdb hr
          by_cases hlt : k < L.length
          · by_cases hca : ca = 0
            · subst hca
              go_wp2
              go_ret
              exact ⟨rfl, HE.out⟩
            · go_wp2
              go_ret
              exact ⟨rfl, HE.out⟩
          · by_cases hca : ca = 0
            · subst hca
              go_wp2
              go_ret
              exact ⟨rfl, HE.out⟩
            · go_wp2
              go_ret
              exact ⟨rfl, HE.out⟩
end Go.Proofs.YtgjcofoicnnnhaaDoor
