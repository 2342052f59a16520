/- StorePlaces: the walk. -/
import Derived.Test.YtgjcofoicnnnhaaGreatDoorMg
import Derived.Test.YtgjcofoicnnnhaaGreatDoorMe
import Derived.BigQuiet
namespace Go.Proofs.YtgjcofoicnnnhaaGreatDoor
open Go.RowKit
set_option maxRecDepth 20000

theorem sseg_any (X : Nat → Prop) (w : World) (F : StF) (sh : Sh) (n : Nat) (m : StM) (h : StoreIs X w F sh n m) : Calls Tryz.prog 12 #[.pointer (some ⟨F.s, 0, none⟩)] w (fun e w' => e = .returned (.pointer (some ⟨F.g, 0, none⟩)) ∧ w' = w) := by
  have c1 := h.c1
  clear h
  go_enter Tryz.func12, Tryz.ntmps12
  go_wp2
  go_returns
  exact ⟨rfl, rfl⟩
theorem slast_any (X : Nat → Prop) (w : World) (F : StF) (sh : Sh) (n : Nat) (m : StM) (z : Int) (hz : IntOk z) (h : StoreIs X w F sh n m) : Calls Tryz.prog 16 #[.pointer (some ⟨F.s, 0, none⟩), .int .i64 z] w (fun e w' => e = .returned (.int .u64 (lastM m z)) ∧ w' = w) := by
  have hl : (Instr.lookup 76 (.map (some F.b)) (.int .i64 z) false).run Tryz.prog w = .ok (.int .u64 (lastM m z)) w := by
    have := h.last.look (t := 76) (e := 41) Tryz.underlying76 (z := .int .u64 0) (by kernel_rfl) (a := z) hz false
    refine this.trans ?_
    unfold lastM
    cases m.la z <;> rfl
  have c4 := h.c4
  clear h
  go_enter Tryz.func16, Tryz.ntmps16
  go_wp2
  go_ret
  exact ⟨rfl, rfl⟩
/-- A store on which nothing but Put was called. -/
structure PlS (w w1 wr : World) (F : StF) (sh : Sh) (k : Nat) (A : Option Addr) (l : List Opv) (m : StM) : Prop where
  st : ∃ X, (∀ b, b < w1.heap.size → X b) ∧ StoreIs X wr F sh (150 * k) m
  good : Good sh m
  wk : Wk sh m
  opn : Opn m
  low : Below w1.heap.size w1 wr
theorem PlS.below {w w1 wr wn : World} {F : StF} {sh : Sh} {k : Nat} {A : Option Addr} {l : List Opv} {m : StM} (h : PlS w w1 wr F sh k A l m) (hb : Below wr.heap.size wr wn) : PlS w w1 wn F sh k A l m := by
  obtain ⟨X, hx, hst⟩ := h.st
  exact ⟨⟨X, hx, hst.below hb⟩, h.good, h.wk, h.opn, h.low.trans (hb.mono h.low.size)⟩
structure OwnAt (w : World) (A : Option Addr) (S : List Pl) : Prop where
  at_ : ∀ k, k < S.length → ∃ r, A = some ⟨r, 0, none⟩ ∧ r < w.heap.size ∧ w.cell? ⟨r, k * 4 + 2, none⟩ = some (.int .i64 (S.getD k p0).z) ∧ w.cell? ⟨r, k * 4 + 3, none⟩ = some (.int .i64 (S.getD k p0).k)
theorem OwnAt.below {w w' : World} {A : Option Addr} {S : List Pl} (h : OwnAt w A S) (hb : Below w.heap.size w w') : OwnAt w' A S := ⟨fun k hk => by
  obtain ⟨r, e, hr, h2, h3⟩ := h.at_ k hk
  exact ⟨r, e, Nat.lt_of_lt_of_le hr hb.size, (hb.cell (p := ⟨r, k * 4 + 2, none⟩) hr).trans h2, (hb.cell (p := ⟨r, k * 4 + 3, none⟩) hr).trans h3⟩⟩
theorem OwnPl.ownAt {w : World} {B : Nat} {A : Option Addr} {c : Nat} {S : List Pl} (h : OwnPl w B A c S) : OwnAt w A S := ⟨fun k hk => by
  obtain ⟨r, rfl, hp⟩ := h.row (by omega)
  exact ⟨r, rfl, World.block_lt_of_cell? _ _ (hp.c2 k hk), hp.c2 k hk, hp.c3 k hk⟩⟩

set_option maxHeartbeats 8000000 in
theorem places_law (w : World) (z zb bl rs : Int) (hz : -9223372036854775808 ≤ z ∧ z ≤ 9223372036854775807) (hb : -9223372036854775808 ≤ bl ∧ bl ≤ 9223372036854775807) (A : Option Addr) (c : Nat) (l : List Opv) (hc : l.length ≤ c) (hp : SOpsAt (fun b => b < w.heap.size) w A l) (hv : ∀ o ∈ l, OpIn o) :
    Calls Tryz.prog 3 #[.agg #[.int .i64 z, .int .i64 zb, .int .i64 bl, .int .i64 rs], .slice A l.length c] w (Makes (.bool true) w) := by
  have HNW := Lib.hid (fun u => snew_any z zb bl rs u hz hb)
  have HK := Lib.hid (fun u => known_any u)
  have HV := Lib.hid hv
  have HSB := Lib.hid (Blk.new w 23 #[.int .i64 z, .int .i64 zb, .int .i64 bl, .int .i64 rs])
  have HBW : Hid (Below w.heap.size w (w.alloc (.cells #[.int .i64 z, .int .i64 zb, .int .i64 bl, .int .i64 rs] 23))) := (Below.refl _ _).alloc (Nat.le_refl _) _
  have HP := Lib.hid (hp.below HBW.out)
  have HSZ : Hid ((w.alloc (.cells #[.int .i64 z, .int .i64 zb, .int .i64 bl, .int .i64 rs] 23)).heap.size = w.heap.size + 1) := by unfold Hid; simp
  have HH := Lib.hid (heavys_any _ (w.alloc (.cells #[.int .i64 z, .int .i64 zb, .int .i64 bl, .int .i64 rs] 23)) z zb bl rs A c l HP.out)
  clear hp hv hz hb hc
  go_enter Tryz.func3, Tryz.ntmps3
  cases hh : heavysM z zb bl l with
  | true =>
    rw [hh] at HH
    simp only [if_true] at HH
    clear hh
    go_wp2_with (fail)
    refine HH.out.mono ?_
    rintro e w2 ⟨rfl, hb2⟩
    have HB2 := Lib.hid (HBW.out.trans (hb2.mono HBW.out.size))
    clear hb2
    go_wp2_with (fail)
    refine (HK.out _).mono ?_
    rintro e w3 ⟨rfl, hb3⟩
    have HB3 := Lib.hid (HB2.out.trans (hb3.mono HB2.out.size))
    clear hb3
    go_wp2
    go_ret
    exact ⟨rfl, HB3.out⟩
  | false =>
    rw [hh] at HH
    simp only [Bool.false_eq_true, if_false] at HH
    have HHV := Lib.hid hh
    clear hh
    go_wp2_with (fail)
    generalize w.alloc (.cells #[.int .i64 z, .int .i64 zb, .int .i64 bl, .int .i64 rs] 23) = w1 at *
    refine HH.out.mono ?_
    rintro e w2 ⟨rfl, hb2⟩
    have HB2 := Lib.hid hb2
    clear hb2 HH
    go_wp2_with (fail)
    refine (HK.out _).mono ?_
    rintro e w3 ⟨rfl, hb3⟩
    have HB3 : Hid (Below w1.heap.size w1 w3) := HB2.out.trans (hb3.mono HB2.out.size)
    have hsb := HSB.out.below HB3.out HSB.out.lt
    have s0 : w3.cell? ⟨w.heap.size, 0, none⟩ = some (.int .i64 z) := hsb.cell 0
    have s1 : w3.cell? ⟨w.heap.size, 1, none⟩ = some (.int .i64 zb) := hsb.cell 1
    have s2 : w3.cell? ⟨w.heap.size, 2, none⟩ = some (.int .i64 bl) := hsb.cell 2
    have s3 : w3.cell? ⟨w.heap.size, 3, none⟩ = some (.int .i64 rs) := hsb.cell 3
    clear hb3 hsb HB2
    go_wp2_with (fail)
    refine (HNW.out w3).mono ?_
    rintro e w4 ⟨hy, hn, hb4⟩
    have HB4 : Hid (Below w1.heap.size w1 w4) := HB3.out.trans (hb4.mono HB3.out.size)
    cases hr : rightB z zb bl rs with
    | false =>
      obtain rfl := hn hr
      have HE : Hid (Below w.heap.size w w4) := HBW.out.trans (HB4.out.mono HBW.out.size)
      clear hy hn hr hb4 s0 s1 s2 s3
      go_wp2
      go_ret
      exact ⟨rfl, HE.out⟩
    | true =>
      obtain ⟨F, sh, rfl, rfl, rfl, rfl, rfl, hst, hown, hgood⟩ := hy hr
      have hok := hst.dev.ok
      have hbk := hok.blk
      have hfa := hok.facts
      have HOK := Lib.hid (And.intro hok hfa)
      have HS4 : Hid (PlS w w1 w4 F sh 0 A l (newM sh (P0 sh))) := ⟨⟨_, fun b hb => Nat.lt_of_lt_of_le hb HB3.out.size, hst⟩, hgood, (Wk.new sh hok).1, (Wk.new sh hok).2, HB4.out⟩
      have hll : l.length ≤ 40 := (heavys_false HHV.out).2.1
      clear hy hn hr hb4 s0 s1 s2 s3 hst hown hgood hok HB4 HNW HK
      go_wp2_with (fail)
      go_loopw [6] (fun i wr => ∃ (k : Nat) (m : StM), k ≤ l.length ∧ i = .int .i64 k ∧ Hid (PlS w w1 wr F sh k A l m)) (fun i _ => l.length - (intOf i).toNat)
      case atStart => exact ⟨0, _, Nat.zero_le _, rfl, HS4⟩
      case round =>
        clear HS4
        obtain ⟨k, m, hk, rfl, hr⟩ := hrel
        by_cases hlt : k < l.length
        · have HLT := Lib.hid hlt
          have hsb := HSB.out.below hr.out.low HSB.out.lt
          obtain ⟨ad, Ad, cd, rfl, hat⟩ := (HP.out.below (w' := w1) (Below.refl _ _)) k hlt
          obtain ⟨o, ho⟩ : ∃ o, l.getD k op0 = o := ⟨_, rfl⟩
          have hol := (heavys_false HHV.out).2.2 _ (getD_mem (d := op0) hlt)
          have HOI := Lib.hid (HV.out _ (getD_mem (d := op0) hlt))
          rw [ho] at hat hol HOI
          have HOL := Lib.hid hol
          have hs2 : wr.cell? ⟨w.heap.size, 2, none⟩ = some (.int .i64 sh.bl) := hsb.cell 2
          have hx1 : (ad.add (k * 3)).block < w1.heap.size := Nat.lt_of_lt_of_le hat.x HBW.out.size
          have q1 : wr.cell? ⟨(ad.add (k * 3)).block, (ad.add (k * 3)).off + 1, none⟩ = some (.slice Ad o.l.length cd) := (hr.out.low.cell (p := ⟨(ad.add (k * 3)).block, (ad.add (k * 3)).off + 1, none⟩) hx1).trans hat.c1
          have hpa : PutsAt (fun b => b < w.heap.size) wr Ad o.l := hat.pa.kp (S := fun b => w1.heap.size ≤ b) ⟨hr.out.low.os, hr.out.low.tape, hr.out.low.output, hr.out.low.size, fun b hb hn => hr.out.low.block b (Nat.lt_of_not_le hn)⟩ (fun b h1 h2 => by have := HBW.out.size; omega)
          have ks : wr.cell? ⟨w.heap.size, 2, none⟩ = some (.int .i64 sh.bl) ∧ wr.cell? ⟨(ad.add (k * 3)).block, (ad.add (k * 3)).off + 1, none⟩ = some (.slice Ad o.l.length cd) := ⟨hs2, q1⟩
          have HBS := Lib.hid (blocks_any (fun b => b < w.heap.size) wr.drew sh.bl (by omega) Ad cd o.l (hpa.below (Below.refl _ _).drew) (by omega) (fun p hp => by have := hol.2 p hp; omega) (fun b hb => Nat.lt_of_lt_of_le hb (Nat.le_trans HBW.out.size hr.out.low.size)))
          obtain ⟨olen, hole⟩ : ∃ n, o.l.length = n := ⟨_, rfl⟩
          have HOLE := Lib.hid hole
          have HX1 := Lib.hid hx1
          clear hsb hat hs2 q1 ho hol hx1 hpa hole
          go_wp2_with (fail)
          go_region_held3 (fun u => u.cell? ⟨w.heap.size, 2, none⟩ = some (.int .i64 sh.bl) ∧ u.cell? ⟨(ad.add (k * 3)).block, (ad.add (k * 3)).off + 1, none⟩ = some (.slice Ad o.l.length cd))
            (first | exact ks | exact ks5 | exact ks6)
            (first
              | (go_at_call 9
                 with_reducible refine HBS.out.mono ?_
                 rintro e w5 ⟨A5, c5, O, rfl, hinv⟩
                 have ks5 : w5.cell? ⟨w.heap.size, 2, none⟩ = some (.int .i64 sh.bl) ∧ w5.cell? ⟨(ad.add (k * 3)).block, (ad.add (k * 3)).off + 1, none⟩ = some (.slice Ad o.l.length cd) := ⟨below_keep hinv.low ks.1, below_keep hinv.low ks.2⟩
                 have hmp := hinv.mp
                 rw [List.take_length] at hmp
                 have hbl5 : Below wr.heap.size wr w5 := (Below.refl _ wr).drew.trans hinv.low
                 obtain ⟨X, hX, hst⟩ := hr.out.st
                 have hst5 := hst.step (X' := fun b => b < w1.heap.size ∨ (wr.heap.size ≤ b ∧ b < w5.heap.size)) hbl5 (fun b hx => by
                   have h1 := hr.out.low.size
                   have h2 := hbl5.size
                   rcases hx with h | h
                   · exact ⟨by omega, .inl (hX b h)⟩
                   · exact ⟨h.2, .inr h.1⟩)
                 have hpa5 : PutsAt (fun b => b < w1.heap.size ∨ (wr.heap.size ≤ b ∧ b < w5.heap.size)) w5 A5 (O.map (·.p)) := hinv.row.puts (fun b h1 h2 => .inr ⟨h1, h2⟩) (fun q hq => by
                   have h := hinv.ok q hq
                   exact ⟨h.rd, fun ad e h0 => by
                     have hw := HBW.out.size
                     rcases h.xd ad e h0 with hx | hx
                     · exact .inl (by have hx' : ad.block < w.heap.size := hx; omega)
                     · obtain ⟨ad2, e2, hb, _⟩ := h.rd.2 h0
                       obtain rfl := Option.some.inj (e.symm.trans e2)
                       exact .inr ⟨hx, hb⟩, h.cap⟩)
                 rw [hmp] at hpa5
                 have hlen : O.length = (o.l.map (blockM sh.bl)).length := by rw [List.length_map]; exact hinv.len
                 have hcap := hinv.row.cap
                 rw [hlen] at hcap ⊢
                 have hLL : (o.l.map (blockM sh.bl)).length ≤ 30 := by rw [List.length_map]; exact HOL.out.1
                 have hput := put_any _ w5 F sh (150 * k) m A5 c5 (o.l.map (blockM sh.bl)) (by omega) hcap hpa5 (fun p hp => by
                   obtain ⟨q, hq, rfl⟩ := List.mem_map.1 hp
                   exact blockM_ok (by omega) ((HOI.out.l q hq).ok (by have := HOL.out.2 q hq; omega))) hr.out.good (by have := HLT.out; omega) hst5
                 have HPUT := Lib.hid hput
                 have HX5 : Hid (Below w1.heap.size w1 w5 ∧ 150 * k + 5 * (o.l.map (blockM sh.bl)).length ≤ 150 * (k + 1) ∧ 150 * (k + 1) ≤ 1000000) := ⟨hr.out.low.trans (hbl5.mono hr.out.low.size), by omega, by have := HLT.out; omega⟩
                 clear hinv hmp hbl5 hst hst5 hpa5 hlen hcap hLL hput hX
                 generalize o.l.map (blockM sh.bl) = L at *)
              | (go_at_call 8
                 with_reducible refine HPUT.out.mono ?_
                 rintro e w6 ⟨rfl, hst6, hk6⟩
                 have ks6 : w6.cell? ⟨w.heap.size, 2, none⟩ = some (.int .i64 sh.bl) ∧ w6.cell? ⟨(ad.add (k * 3)).block, (ad.add (k * 3)).off + 1, none⟩ = some (.slice Ad o.l.length cd) := ⟨hk6.cell ks5.1 (fun h => h (.inl HSB.out.lt)), hk6.cell ks5.2 (fun h => h (.inl HX1.out))⟩
                 have HS6 : Hid (PlS w w1 w6 F sh (k + 1) (some ad) l (putM sh m L).2) := ⟨⟨_, fun b hb => .inl hb, hst6.mono HX5.out.2.1 HX5.out.2.2⟩, putM_good HOK.out.1 _ hr.out.good, (hr.out.wk.putM HOK.out.1 _ hr.out.good hr.out.opn).1, (hr.out.wk.putM HOK.out.1 _ hr.out.good hr.out.opn).2, Kp.below HX5.out.1 hk6 HX5.out.1.size (fun b hb h => h (.inl hb))⟩
                 clear hst6 hk6))
          all_goals
            clear ks ks5 ks6 HPUT HX5 HX1 HBS HOI HOL HOLE
            generalize (putM sh m L).2 = m6 at *
            generalize (putM sh m L).1 = code at *
            have hk150 : 150 * (k + 1) ≤ 1000000 := by have := HLT.out; omega
            obtain ⟨n6, hn6⟩ : ∃ n6, 150 * (k + 1) = n6 := ⟨_, rfl⟩
            clear hr
            go_wp2_with (fail)
            obtain ⟨X6, hX6, hst6⟩ := HS6.out.st
            have HMAP := Lib.hid (map_any X6 w6 F sh _ m6 hst6)
            have HALL := Lib.hid (lall_any w6 F.f _ m6.L hk150 hst6.lm)
            have HLEN : Hid (m6.L.length ≤ 1000000) := by have := hst6.lm.len; unfold Hid; omega
            clear hX6 hst6
            refine HMAP.out.mono ?_
            rintro e w7 ⟨rfl, rfl⟩
            go_wp2_with (fail)
            refine HALL.out.mono ?_
            rintro e w8 ⟨A8, c8, S, rfl, hown8, hperm, _, hb8⟩
            have HS8 := Lib.hid (HS6.out.below hb8)
            have HO8 := Lib.hid hown8.ownAt
            have HSL : Hid (∀ p ∈ S, p ∈ m6.L) := fun p hp => hperm.mem_iff.1 hp
            have hsl : S.length ≤ 1000000 := by have h1 := hperm.length_eq; have h2 := HLEN.out; omega
            clear hown8 hperm hb8 HMAP HALL HLEN HS6
            go_wp2_with (fail)
            go_loopw [8] (fun i wr => ∃ j : Nat, j ≤ S.length ∧ i = .int .i64 j ∧ Hid (Below w8.heap.size w8 wr)) (fun i _ => S.length - (intOf i).toNat)
            case atStart => exact ⟨0, Nat.zero_le _, rfl, Below.refl _ _⟩
            case round =>
              obtain ⟨j, hj, rfl, hrr⟩ := hrel
              by_cases hlt2 : j < S.length
              · obtain ⟨r, rfl, hr1, hc2, hc3⟩ := (HO8.out.below hrr.out).at_ j hlt2
                have HBK := Lib.hid (HS8.out.wk.block HS8.out.good (HSL.out _ (getD_mem (d := p0) hlt2)))
                have HLT2 := Lib.hid hlt2
                obtain ⟨p, hp⟩ : ∃ p, S.getD j p0 = p := ⟨_, rfl⟩
                rw [hp] at hc2 hc3 HBK
                obtain ⟨zz, hzz⟩ := Int.eq_ofNat_of_zero_le HBK.out.2.2.2.2.1
                rw [hzz] at hc2 HBK
                obtain ⟨pk, hpk⟩ : ∃ pk, p.k = pk := ⟨_, rfl⟩
                rw [hpk] at hc3 HBK
                have HRR := Lib.hid hrr.out
                have HAL : Hid (Below w8.heap.size w8 (wr.alloc (.cells #[.int .i64 zz, .int .i64 pk] 43))) := hrr.out.alloc hrr.out.size _
                have hnb := Blk.new wr 43 #[.int .i64 zz, .int .i64 pk]
                have HNB := Lib.hid hnb
                clear hp hpk hzz hrr hr1 hnb
                go_wp2_with (fail)
                generalize wr.alloc (.cells #[.int .i64 zz, .int .i64 pk] 43) = w9 at *
                generalize wr.heap.size = b9 at *
                have HS9 := Lib.hid (HS8.out.below HAL.out)
                have HDN : Hid (∀ n, Below w9.heap.size w9 (w9.drewN n)) := fun n => below_drewN (Below.refl _ _) n
                have HSEG : Hid (∀ n, Calls Tryz.prog 12 #[.pointer (some ⟨F.s, 0, none⟩)] (w9.drewN n) (fun e w' => e = .returned (.pointer (some ⟨F.g, 0, none⟩)) ∧ w' = w9.drewN n)) := fun n => by
                  obtain ⟨X, _, hst⟩ := (HS9.out.below (HDN.out n)).st
                  exact sseg_any X _ F sh _ m6 hst
                have HSTA : Hid (∀ n, Calls Tryz.prog 13 #[.pointer (some ⟨F.g, 0, none⟩), .int .i64 zz] (w9.drewN n) (fun e w' => e = .returned (.int .u8 (stateAt m6.G zz)) ∧ w' = w9.drewN n)) := fun n => by
                  obtain ⟨X, _, hst⟩ := (HS9.out.below (HDN.out n)).st
                  exact (state_any F.g F.gb m6.G _ _ zz _ hst.seg.1).mono (fun e w' h => ⟨h.1, h.2.symm⟩)
                have d0 : w9.cell? ⟨b9, 0, none⟩ = some (.int .i64 zz) := HNB.out.cell 0
                have d1 : w9.cell? ⟨b9, 1, none⟩ = some (.int .i64 pk) := HNB.out.cell 1
                have h16 : zz < m6.P.length := by have h1 := HBK.out.2.2.2.2.2; have h2 := HS9.out.good.pl; omega
                have HZP := Lib.hid h16
                have hk1 : ¬ pk < 1 := by have := HBK.out.2.1; omega
                have hlen : lenM m6 zz = (m6.P.getD zz pt0).bs.length := by unfold lenM; rw [Int.toNat_natCast]
                have hk2 : ¬ ((m6.P.getD zz pt0).bs.length : Int) ≤ pk := by have := HBK.out.2.2.1; rw [hlen] at this; omega
                have hk3 : ¬ lastM m6 zz = 0 := by have := HBK.out.2.2.2.1; omega
                have HIO : Hid (IntOk (zz : Int)) := by have h1 := HBK.out.2.2.2.2.2; have h2 := HOK.out.2; unfold Hid IntOk; omega
                have hor := HBK.out.1
                clear hlen h16 HBK hc2 hc3
                rcases hor with hs2 | hs2
                all_goals
                  rw [hs2] at HSTA
                  clear hs2
                  go_quiet (first
                    | (go_at_call 12; with_reducible exact Calls.quiet_of_same (HSEG.out _))
                    | (go_at_call 13; with_reducible exact Calls.quiet_of_same (HSTA.out _)))
                  have HS10 := Lib.hid (HS9.out.below (HDN.out nq))
                  have HL10 : Hid (Below w8.heap.size w8 (w9.drewN nq)) := HAL.out.trans ((HDN.out nq).mono HAL.out.size)
                  have e0 : (w9.drewN nq).cell? ⟨b9, 0, none⟩ = some (.int .i64 zz) := d0
                  have e1 : (w9.drewN nq).cell? ⟨b9, 1, none⟩ = some (.int .i64 pk) := d1
                  clear HSEG HSTA d0 d1 HDN
                  go_wp2_with (fail)
                  generalize w9.drewN nq = w10 at *
                  have ks : w10.cell? ⟨b9, 0, none⟩ = some (.int .i64 zz) ∧ w10.cell? ⟨b9, 1, none⟩ = some (.int .i64 pk) := ⟨e0, e1⟩
                  have HDEV : Hid (Calls Tryz.prog 14 #[.pointer (some ⟨F.s, 0, none⟩)] w10.drew (fun e w' => e = .returned (.pointer (some ⟨F.d, 0, none⟩)) ∧ w10.drew = w')) := by
                    obtain ⟨X, _, hst⟩ := HS10.out.st
                    exact dev_any X _ F sh _ m6 hst.drew
                  have HAT : Hid (Calls Tryz.prog 15 #[.pointer (some ⟨F.d, 0, none⟩), .int .i64 zz] w10.drew (Makes (.tuple #[.int .i64 ((m6.P.getD zz pt0).bs.length : Nat), .int .i64 ((m6.P.getD zz pt0).du : Nat)]) w10.drew)) := by
                    obtain ⟨X, _, hst⟩ := HS10.out.st
                    exact zat_any _ _ F.d sh m6.P zz HZP.out hst.drew.dev
                  generalize (m6.P.getD zz pt0).bs.length = ln at *
                  generalize (m6.P.getD zz pt0).du = du at *
                  clear e0 e1
                  go_region_held3 (fun u => u.cell? ⟨b9, 0, none⟩ = some (.int .i64 zz) ∧ u.cell? ⟨b9, 1, none⟩ = some (.int .i64 pk))
                    (first | exact ks | exact ks2)
                    (first
                      | (go_at_call 14
                         with_reducible refine HDEV.out.mono ?_
                         rintro e u ⟨rfl, rfl⟩)
                      | (go_at_call 15
                         with_reducible refine HAT.out.mono ?_
                         rintro e w11 ⟨rfl, hb11⟩
                         have ks2 : w11.cell? ⟨b9, 0, none⟩ = some (.int .i64 zz) ∧ w11.cell? ⟨b9, 1, none⟩ = some (.int .i64 pk) := ⟨below_keep hb11 ks.1, below_keep hb11 ks.2⟩
                         have HB11 : Hid (Below w10.heap.size w10 w11) := (Below.refl _ w10).drew.trans hb11
                         clear hb11))
                  all_goals
                    have HS11 := Lib.hid (HS10.out.below HB11.out)
                    have HLAST : Hid (Calls Tryz.prog 16 #[.pointer (some ⟨F.s, 0, none⟩), .int .i64 zz] w11 (fun e w' => e = .returned (.int .u64 (lastM m6 zz)) ∧ w' = w11)) := by
                      obtain ⟨X, _, hst⟩ := HS11.out.st
                      exact slast_any X _ F sh _ m6 zz HIO.out hst
                    have HNX : Hid (Below w8.heap.size w8 w11) := HL10.out.trans (HB11.out.mono HL10.out.size)
                    have c0 := ks2.1
                    have c1 := ks2.2
                    clear ks ks2 HDEV HAT HB11
                    generalize lastM m6 zz = la at *
                    have hd3 : decide (la = 0) = false := decide_eq_false hk3
                    have hb3 : (la == 0) = false := by simpa using hk3
                    go_wp2_with (fail)
                    refine HLAST.out.mono ?_
                    rintro e u ⟨rfl, hu⟩
                    have HNU : Hid (Below w8.heap.size w8 u) := by rw [hu]; exact HNX.out
                    clear hu
                    go_wp2
                    go_roundw
                    case rel => exact ⟨j + 1, HLT2.out, by go_num, HNU.out⟩
                    case measure => have := HLT2.out; simp [intOf]; omega
              · have HS12 := Lib.hid (HS8.out.below hrr.out)
                obtain rfl : j = S.length := by omega
                clear hrr HO8 HSL HS8
                obtain ⟨w12, rfl⟩ : ∃ w12, w12 = wr := ⟨_, rfl⟩
                have hszz : (sh.z : Int) ≤ 256 ∧ (6 : Int) ≤ sh.z := by have := HOK.out.2; omega
                go_wp2_with (fail)
                go_loopw [13] (fun i wr => ∃ q : Nat, 2 ≤ q ∧ q ≤ sh.z ∧ i = .int .i64 q ∧ Hid (Below w12.heap.size w12 wr)) (fun i _ => sh.z - (intOf i).toNat)
                case atStart => exact ⟨2, Nat.le_refl _, by omega, rfl, Below.refl _ _⟩
                case round =>
                  obtain ⟨q, hq2, hqz, rfl, hrr⟩ := hrel
                  have HS13 := Lib.hid (HS12.out.below hrr.out)
                  have g0 : wr.cell? ⟨w.heap.size, 0, none⟩ = some (.int .i64 sh.z) := (HSB.out.below HS13.out.low HSB.out.lt).cell 0
                  by_cases hlt3 : q < sh.z
                  · have HLT3 := Lib.hid hlt3
                    have HZP : Hid (q < m6.P.length) := by have h2 := HS13.out.good.pl; unfold Hid; omega
                    have HZN := Lib.hid (HS13.out.wk.zone HS13.out.good HS13.out.opn (z := (q : Int)) (by omega) (by omega))
                    have hlen : lenM m6 q = (m6.P.getD q pt0).bs.length := by unfold lenM; rw [Int.toNat_natCast]
                    rw [hlen] at HZN
                    have HLE : Hid ((m6.P.getD q pt0).bs.length ≤ 4096) := by
                      obtain ⟨X, _, hst⟩ := HS13.out.st
                      have h1 := (hst.dev.fit HZP.out).fit
                      have h2 := HOK.out.2
                      unfold Hid; omega
                    have HIO : Hid (IntOk (q : Int)) := by unfold Hid IntOk; omega
                    have HDEV : Hid (Calls Tryz.prog 14 #[.pointer (some ⟨F.s, 0, none⟩)] wr (fun e w' => e = .returned (.pointer (some ⟨F.d, 0, none⟩)) ∧ wr = w')) := by
                      obtain ⟨X, _, hst⟩ := HS13.out.st
                      exact dev_any X _ F sh _ m6 hst
                    have HAT : Hid (Calls Tryz.prog 15 #[.pointer (some ⟨F.d, 0, none⟩), .int .i64 q] wr (Makes (.tuple #[.int .i64 ((m6.P.getD q pt0).bs.length : Nat), .int .i64 ((m6.P.getD q pt0).du : Nat)]) wr)) := by
                      obtain ⟨X, _, hst⟩ := HS13.out.st
                      exact zat_any _ _ F.d sh m6.P q HZP.out hst.dev
                    have HRR := Lib.hid hrr.out
                    clear hlen hrr
                    generalize (m6.P.getD q pt0).bs.length = ln at *
                    generalize (m6.P.getD q pt0).du = du at *
                    go_wp2_with (fail)
                    refine HDEV.out.mono ?_
                    rintro e u ⟨rfl, rfl⟩
                    go_wp2_with (fail)
                    refine HAT.out.mono ?_
                    rintro e w14 ⟨rfl, hb14⟩
                    have HS14 := Lib.hid (HS13.out.below hb14)
                    have HNX : Hid (Below w12.heap.size w12 w14) := HRR.out.trans (hb14.mono HRR.out.size)
                    have HSEG : Hid (Calls Tryz.prog 12 #[.pointer (some ⟨F.s, 0, none⟩)] w14 (fun e w' => e = .returned (.pointer (some ⟨F.g, 0, none⟩)) ∧ w' = w14)) := by
                      obtain ⟨X, _, hst⟩ := HS14.out.st
                      exact sseg_any X _ F sh _ m6 hst
                    have HSTA : Hid (Calls Tryz.prog 13 #[.pointer (some ⟨F.g, 0, none⟩), .int .i64 q] w14 (fun e w' => e = .returned (.int .u8 (stateAt m6.G q)) ∧ w14 = w')) := by
                      obtain ⟨X, _, hst⟩ := HS14.out.st
                      exact state_any F.g F.gb m6.G _ _ q _ hst.seg.1
                    have HLAST : Hid (Calls Tryz.prog 16 #[.pointer (some ⟨F.s, 0, none⟩), .int .i64 q] w14 (fun e w' => e = .returned (.int .u64 (lastM m6 q)) ∧ w' = w14)) := by
                      obtain ⟨X, _, hst⟩ := HS14.out.st
                      exact slast_any X _ F sh _ m6 q HIO.out hst
                    clear hb14 HDEV HAT g0
                    generalize lastM m6 q = la at *
                    generalize stateAt m6.G q = sg at *
                    by_cases hs1 : sg = 1
                    · obtain ⟨hl0, hla0⟩ := HZN.out.1 hs1
                      subst hs1 hl0 hla0
                      clear HZN
                      go_wp2_with (fail)
                      refine HSEG.out.mono ?_
                      rintro e u ⟨rfl, rfl⟩
                      go_wp2_with (fail)
                      refine HSTA.out.mono ?_
                      rintro e u ⟨rfl, rfl⟩
                      go_wp2_with (fail)
                      refine HLAST.out.mono ?_
                      rintro e u ⟨rfl, rfl⟩
                      go_wp2
                      go_roundw
                      case rel => exact ⟨q + 1, by omega, HLT3.out, by go_num, HNX.out⟩
                      case measure => have := HLT3.out; simp [intOf]; omega
                    · by_cases hl0 : ln = 0
                      · have hla : ¬ la = 0 := fun e => hs1 (HZN.out.2 ⟨hl0, e⟩)
                        have hd3 : decide (la = 0) = false := decide_eq_false hla
                        have hb3 : (la == 0) = false := by simpa using hla
                        have hd4 : decide (sg = 1) = false := decide_eq_false hs1
                        have hb4 : (sg == 1) = false := by simpa using hs1
                        subst hl0
                        clear HZN
                        go_wp2_with (fail)
                        refine HSEG.out.mono ?_
                        rintro e u ⟨rfl, rfl⟩
                        go_wp2_with (fail)
                        refine HSTA.out.mono ?_
                        rintro e u ⟨rfl, rfl⟩
                        go_wp2_with (fail)
                        refine HLAST.out.mono ?_
                        rintro e u ⟨rfl, rfl⟩
                        go_wp2
                        go_roundw
                        case rel => exact ⟨q + 1, by omega, HLT3.out, by go_num, HNX.out⟩
                        case measure => have := HLT3.out; simp [intOf]; omega
                      · have hl0' : ¬ (ln : Int) = 0 := by omega
                        have hd4 : decide (sg = 1) = false := decide_eq_false hs1
                        have hb4 : (sg == 1) = false := by simpa using hs1
                        have hd5 : decide ((ln : Int) = 0) = false := decide_eq_false hl0'
                        have hb5 : ((ln : Int) == 0) = false := by simpa using hl0'
                        clear HZN
                        go_wp2_with (fail)
                        refine HSEG.out.mono ?_
                        rintro e u ⟨rfl, rfl⟩
                        go_wp2_with (fail)
                        refine HSTA.out.mono ?_
                        rintro e u ⟨rfl, rfl⟩
                        go_wp2
                        go_roundw
                        case rel => exact ⟨q + 1, by omega, HLT3.out, by go_num, HNX.out⟩
                        case measure => have := HLT3.out; simp [intOf]; omega
                  · have hqe : (q : Int) = sh.z := by omega
                    have HSEG : Hid (Calls Tryz.prog 12 #[.pointer (some ⟨F.s, 0, none⟩)] wr (fun e w' => e = .returned (.pointer (some ⟨F.g, 0, none⟩)) ∧ w' = wr)) := by
                      obtain ⟨X, _, hst⟩ := HS13.out.st
                      exact sseg_any X _ F sh _ m6 hst
                    have HLIS : Hid (Calls Tryz.prog 17 #[.pointer (some ⟨F.g, 0, none⟩), .int .u8 2] wr (Lists (listTo m6.G 2 m6.G.length) wr)) := by
                      obtain ⟨X, _, hst⟩ := HS13.out.st
                      exact list_any F.g F.gb m6.G _ _ 2 _ hst.seg.2 hst.seg.1
                    have hone := HS13.out.wk.opens
                    clear hrr
                    generalize listTo m6.G 2 m6.G.length = lo at *
                    go_wp2_with (fail)
                    refine HSEG.out.mono ?_
                    rintro e u ⟨rfl, rfl⟩
                    go_wp2_with (fail)
                    refine HLIS.out.mono ?_
                    rintro e w15 ⟨A15, c15, rfl, _, hb15, _⟩
                    have HS15 : Hid (PlS w w1 w15 F sh (k + 1) (some ad) l m6) := HS13.out.below hb15
                    have hone' : ¬ (1 : Int) < lo.length := by omega
                    clear hb15 hone HSEG HLIS g0
                    generalize lo.length = nlo at *
                    go_wp2
                    go_roundw
                    case rel => exact ⟨k + 1, m6, HLT.out, by go_num, HS15⟩
                    case measure => have := HLT.out; simp [intOf]; omega
        · have HE : Hid (Below w.heap.size w wr) := HBW.out.trans (hr.out.low.mono HBW.out.size)
          have hkl : (k : Int) = l.length := by omega
          clear hr
          go_wp2
          go_ret
          exact ⟨rfl, HE.out⟩
end Go.Proofs.YtgjcofoicnnnhaaGreatDoor
