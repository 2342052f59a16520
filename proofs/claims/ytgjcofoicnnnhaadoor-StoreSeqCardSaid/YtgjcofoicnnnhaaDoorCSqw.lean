/- StoreSeq: the walk. -/
import Derived.Test.YtgjcofoicnnnhaaDoorCSl12
import Derived.Test.YtgjcofoicnnnhaaDoorMe
import Derived.Test.YtgjcofoicnnnhaaDoorCZe
import Derived.BigQuiet
namespace Go.Proofs.YtgjcofoicnnnhaaDoor
open Go.RowKit
set_option maxRecDepth 20000

set_option maxHeartbeats 4000000 in
theorem put_arg (X : Nat → Prop) (w : World) (F : StF) (sh : Sh) (n : Nat) (m : StM) (A : Option Addr) (c : Nat) (l : List Pv) (hl : l.length ≤ 100000) (hc : l.length ≤ c) (hp : PutsAt X w A l) (hv : ∀ p ∈ l, PvOk p) (hg : Good sh m) (hn : n + 5 * l.length ≤ 1000000) (h : StoreIs X w F sh n m) (ha : argOk sh l = false) :
    Calls Tryd.prog 11 #[.pointer (some ⟨F.s, 0, none⟩), .slice A l.length c] w (Makes (.int .u16 1) w) := by
  have hok := h.dev.ok
  have hbl := hok.blk
  have H := Lib.hid h
  have HARG := Lib.hid ha
  have HP := Lib.hid hp
  have HV := Lib.hid hv
  have HG := Lib.hid hg
  have HN := Lib.hid hn
  have HC := Lib.hid hc
  have HOK := Lib.hid hok
  have HS := Lib.hid (fun u (hu : StoreIs X u F sh n m) => shape_any _ u F.d sh m.P hu.dev)
  unfold shV at HS
  have hfl := field_sh2 sh.z sh.zb sh.bl sh.rs
  clear h hp hv hg hn hc hok ha
  go_enter Tryd.func11, Tryd.ntmps11
  go_wp2_with (fail)
  go_loopw [11] (fun i wr => ∃ k : Nat, k ≤ l.length ∧ i = .int .i64 k ∧ Hid (Below w.heap.size w wr ∧ ∀ j, j < k → (l.getD j pv0).d = true ∨ (l.getD j pv0).da.length = sh.bl)) (fun i _ => l.length - (intOf i).toNat)
  case atStart => exact ⟨0, Nat.zero_le _, rfl, ⟨Below.refl _ _, fun j hj => by omega⟩⟩
  case round =>
    obtain ⟨k, hk, rfl, hr⟩ := hrel
    by_cases hlt : k < l.length
    · have hpw := HP.out.below hr.out.1
      obtain ⟨ad, Ad, cd, rfl, hat⟩ := hpw k hlt
      have p0 := hat.c0
      have p1 := hat.c1
      have p2 := hat.c2
      have p3 := hat.c3
      have HPV := Lib.hid (HV.out _ (getD_mem (d := pv0) hlt))
      have HDA : Hid ((l.getD k pv0).d = false → (l.getD k pv0).da.length ≠ sh.bl → argOk sh l = false) := argOk_false hlt
      have HNX : Hid (((l.getD k pv0).d = true ∨ (l.getD k pv0).da.length = sh.bl) → ∀ j, j < k + 1 → (l.getD j pv0).d = true ∨ (l.getD j pv0).da.length = sh.bl) := fun h j hj => by
        rcases Nat.lt_or_ge j k with h' | h'
        · exact hr.out.2 j h'
        · rw [show j = k by omega]; exact h
      have HLT := Lib.hid hlt
      have HST := Lib.hid (H.out.below hr.out.1)
      have HB := Lib.hid hr.out.1
      have c0 := HST.out.c0
      clear hpw hat hr
      generalize l.getD k pv0 = p at *
      obtain ⟨pt, pbl, pd, pda⟩ := p
      simp only at p0 p1 p2 p3 HDA HNX
      go_upto_region 4 with (fail)
      have hb5 : Below w.heap.size w (wr.alloc (.cells #[.int .u32 pt, .int .u64 pbl, .bool pd, .slice Ad pda.length cd] 37)) := HB.out.alloc HB.out.size _
      have hpb := Blk.new wr 37 #[.int .u32 pt, .int .u64 pbl, .bool pd, .slice Ad pda.length cd]
      have HB5 := Lib.hid (And.intro hb5 hpb)
      have HST5 := Lib.hid (H.out.below hb5)
      have hpl := HPV.out.len
      simp only at hpl
      clear hb5 hpb p0 p1 p2 p3 c0 HST HB HPV
      generalize wr.heap.size = b5 at *
      generalize wr.alloc (.cells #[.int .u32 pt, .int .u64 pbl, .bool pd, .slice Ad pda.length cd] 37) = w5 at *
      have ks : w5.cell? ⟨b5, 2, none⟩ = some (.bool pd) ∧ w5.cell? ⟨b5, 3, none⟩ = some (.slice Ad pda.length cd) ∧ w5.cell? ⟨F.s, 0, none⟩ = some (.pointer (some ⟨F.d, 0, none⟩)) := ⟨HB5.out.2.cell 2, HB5.out.2.cell 3, HST5.out.c0⟩
      have HS5 := Lib.hid (HS.out _ HST5.out.drew)
      cases pd with
      | true =>
        obtain ⟨kk2, kk3, kk0⟩ := ks
        go_quiet (fail)
        all_goals
          have HN6 : Hid (Below w.heap.size w (w5.drewN nq) ∧ ∀ j, j < k + 1 → (l.getD j pv0).d = true ∨ (l.getD j pv0).da.length = sh.bl) := ⟨HB5.out.1.trans ⟨rfl, rfl, rfl, Nat.le_refl _, fun _ _ => rfl⟩, HNX.out (.inl rfl)⟩
          clear kk2 kk3 kk0 HS5 HST5 HB5 HDA HNX
          go_wp2
          go_roundw
          case rel => exact ⟨k + 1, HLT.out, by go_num, HN6⟩
          case measure => have := HLT.out; simp [intOf]; omega
      | false =>
        by_cases hle : pda.length = sh.bl
        · have hle' : (pda.length : Int) = sh.bl := by omega
          obtain ⟨kk2, kk3, kk0⟩ := ks
          go_region_law (first
            | (go_simp
               go_at_call 29
               with_reducible refine HS5.out.mono ?_
               rintro e w6 ⟨rfl, hb6⟩
               have k2 : w6.cell? ⟨b5, 2, none⟩ = some (.bool false) := below_keep hb6 kk2
               have k3 : w6.cell? ⟨b5, 3, none⟩ = some (.slice Ad pda.length cd) := below_keep hb6 kk3
               have k0 : w6.cell? ⟨F.s, 0, none⟩ = some (.pointer (some ⟨F.d, 0, none⟩)) := below_keep hb6 kk0
               have HB6 := Lib.hid (HB5.out.1.drew.trans (hb6.mono HB5.out.1.drew.size))
               clear hb6))
          all_goals
            have HN6 : Hid (Below w.heap.size w w6 ∧ ∀ j, j < k + 1 → (l.getD j pv0).d = true ∨ (l.getD j pv0).da.length = sh.bl) := ⟨HB6.out, HNX.out (.inr hle)⟩
            clear kk2 kk3 kk0 k2 k3 k0 HS5 HST5 HB5 HDA HNX HB6
            go_wp2
            go_roundw
            case rel => exact ⟨k + 1, HLT.out, by go_num, HN6⟩
            case measure => have := HLT.out; simp [intOf]; omega
        · have hle' : ¬ (pda.length : Int) = sh.bl := by omega
          have HAF := Lib.hid (HDA.out rfl hle)
          obtain ⟨kk2, kk3, kk0⟩ := ks
          go_region_law (first
            | (go_simp
               go_at_call 29
               with_reducible refine HS5.out.mono ?_
               rintro e w6 ⟨rfl, hb6⟩
               have k2 : w6.cell? ⟨b5, 2, none⟩ = some (.bool false) := below_keep hb6 kk2
               have k3 : w6.cell? ⟨b5, 3, none⟩ = some (.slice Ad pda.length cd) := below_keep hb6 kk3
               have k0 : w6.cell? ⟨F.s, 0, none⟩ = some (.pointer (some ⟨F.d, 0, none⟩)) := below_keep hb6 kk0
               have HB6 := Lib.hid (HB5.out.1.drew.trans (hb6.mono HB5.out.1.drew.size))
               clear hb6))
          all_goals
            clear kk2 kk3 kk0 k2 k3 k0 HS5 HST5 HB5 HDA HNX
            go_wp2
            go_ret
            exact ⟨rfl, HB6.out⟩
    · obtain rfl : k = l.length := by omega
      have hc' := argOk_true hr.out.2
      rw [HARG.out] at hc'
      cases hc'

/-- A store on which nothing but Put was called. -/
structure SqS (w1 wr : World) (F : StF) (sh : Sh) (k : Nat) (m : StM) : Prop where
  st : ∃ X, (∀ b, b < w1.heap.size → X b) ∧ StoreIs X wr F sh (150 * k) m
  good : Good sh m
  low : Below w1.heap.size w1 wr
theorem SqS.below {w1 wr wn : World} {F : StF} {sh : Sh} {k : Nat} {m : StM} (h : SqS w1 wr F sh k m) (hb : Below wr.heap.size wr wn) : SqS w1 wn F sh k m := by
  obtain ⟨X, hx, hst⟩ := h.st
  exact ⟨⟨X, hx, hst.below hb⟩, h.good, h.low.trans (hb.mono h.low.size)⟩

set_option maxHeartbeats 8000000 in
theorem seq_law (w : World) (z zb bl rs : Int) (hz : -9223372036854775808 ≤ z ∧ z ≤ 9223372036854775807) (hb : -9223372036854775808 ≤ bl ∧ bl ≤ 9223372036854775807) (A : Option Addr) (c : Nat) (l : List Opv) (_hc : l.length ≤ c) (hp : SOpsAt (fun b => b < w.heap.size) w A l) (hv : ∀ o ∈ l, OpIn o) :
    Calls Tryd.prog 6 #[.agg #[.int .i64 z, .int .i64 zb, .int .i64 bl, .int .i64 rs], .slice A l.length c] w (Makes (.bool true) w) := by
  have HNW := Lib.hid (fun u => snew_any z zb bl rs u hz hb)
  have HK := Lib.hid (fun u => known_any u)
  have HV := Lib.hid hv
  have HSB := Lib.hid (Blk.new w 23 #[.int .i64 z, .int .i64 zb, .int .i64 bl, .int .i64 rs])
  have HBW : Hid (Below w.heap.size w (w.alloc (.cells #[.int .i64 z, .int .i64 zb, .int .i64 bl, .int .i64 rs] 23))) := (Below.refl _ _).alloc (Nat.le_refl _) _
  have HP := Lib.hid (hp.below HBW.out)
  have HSZ : Hid ((w.alloc (.cells #[.int .i64 z, .int .i64 zb, .int .i64 bl, .int .i64 rs] 23)).heap.size = w.heap.size + 1) := by unfold Hid; simp
  have HH := Lib.hid (heavys_any _ (w.alloc (.cells #[.int .i64 z, .int .i64 zb, .int .i64 bl, .int .i64 rs] 23)) z zb bl rs A c l HP.out)
  clear hp hv hz hb _hc
  go_enter Tryd.func6, Tryd.ntmps6
  cases hh : heavysM z zb bl l with
  | true =>
    rw [hh] at HH
    simp only [if_true] at HH
    clear hh
    go_wp2_with (fail)
    refine HH.out.mono ?_
    rintro e w2 ⟨rfl, hb2⟩
    have HB2 := Lib.hid (HBW.out.trans (hb2.mono HBW.out.size))
    clear hb2
    go_wp2_with (fail)
    refine (HK.out _).mono ?_
    rintro e w3 ⟨rfl, hb3⟩
    have HB3 := Lib.hid (HB2.out.trans (hb3.mono HB2.out.size))
    clear hb3
    go_wp2
    go_ret
    exact ⟨rfl, HB3.out⟩
  | false =>
    rw [hh] at HH
    simp only [Bool.false_eq_true, if_false] at HH
    have HHV := Lib.hid hh
    clear hh
    go_wp2_with (fail)
    generalize w.alloc (.cells #[.int .i64 z, .int .i64 zb, .int .i64 bl, .int .i64 rs] 23) = w1 at *
    refine HH.out.mono ?_
    rintro e w2 ⟨rfl, hb2⟩
    have HB2 := Lib.hid hb2
    clear hb2 HH
    go_wp2_with (fail)
    refine (HK.out _).mono ?_
    rintro e w3 ⟨rfl, hb3⟩
    have HB3 : Hid (Below w1.heap.size w1 w3) := HB2.out.trans (hb3.mono HB2.out.size)
    have hsb := HSB.out.below HB3.out HSB.out.lt
    have s0 : w3.cell? ⟨w.heap.size, 0, none⟩ = some (.int .i64 z) := hsb.cell 0
    have s1 : w3.cell? ⟨w.heap.size, 1, none⟩ = some (.int .i64 zb) := hsb.cell 1
    have s2 : w3.cell? ⟨w.heap.size, 2, none⟩ = some (.int .i64 bl) := hsb.cell 2
    have s3 : w3.cell? ⟨w.heap.size, 3, none⟩ = some (.int .i64 rs) := hsb.cell 3
    clear hb3 hsb HB2
    go_wp2_with (fail)
    refine (HNW.out w3).mono ?_
    rintro e w4 ⟨hy, hn, hb4⟩
    have HB4 : Hid (Below w1.heap.size w1 w4) := HB3.out.trans (hb4.mono HB3.out.size)
    cases hr : rightB z zb bl rs with
    | false =>
      obtain rfl := hn hr
      have HE : Hid (Below w.heap.size w w4) := HBW.out.trans (HB4.out.mono HBW.out.size)
      clear hy hn hr hb4 s0 s1 s2 s3
      go_wp2
      go_ret
      exact ⟨rfl, HE.out⟩
    | true =>
      obtain ⟨F, sh, rfl, rfl, rfl, rfl, rfl, hst, hown, hgood⟩ := hy hr
      have hok := hst.dev.ok
      have hbk := hok.blk
      have hfa := hok.facts
      have HOK := Lib.hid (And.intro hok hfa)
      have HS4 : Hid (SqS w1 w4 F sh 0 (newM sh (P0 sh))) := ⟨⟨_, fun b hb => Nat.lt_of_lt_of_le hb HB3.out.size, hst⟩, hgood, HB4.out⟩
      have hll : l.length ≤ 40 := (heavys_false HHV.out).2.1
      clear hy hn hr hb4 s0 s1 s2 s3 hst hown hgood hok HB4 HNW HK
      go_wp2_with (fail)
      go_loopw [6] (fun i wr => ∃ (k : Nat) (m : StM), k ≤ l.length ∧ i = .int .i64 k ∧ Hid (SqS w1 wr F sh k m)) (fun i _ => l.length - (intOf i).toNat)
      case atStart => exact ⟨0, _, Nat.zero_le _, rfl, HS4⟩
      case round =>
        clear HS4
        obtain ⟨k, m, hk, rfl, hr⟩ := hrel
        by_cases hlt : k < l.length
        · have HLT := Lib.hid hlt
          have hsb := HSB.out.below hr.out.low HSB.out.lt
          obtain ⟨ad, Ad, cd, rfl, hat⟩ := (HP.out.below (w' := w1) (Below.refl _ _)) k hlt
          obtain ⟨o, ho⟩ : ∃ o, l.getD k op0 = o := ⟨_, rfl⟩
          have hol := (heavys_false HHV.out).2.2 _ (getD_mem (d := op0) hlt)
          have HOI := Lib.hid (HV.out _ (getD_mem (d := op0) hlt))
          rw [ho] at hat hol HOI
          have HOL := Lib.hid hol
          have hs2 : wr.cell? ⟨w.heap.size, 2, none⟩ = some (.int .i64 sh.bl) := hsb.cell 2
          have hx1 : (ad.add (k * 3)).block < w1.heap.size := Nat.lt_of_lt_of_le hat.x HBW.out.size
          have q1 : wr.cell? ⟨(ad.add (k * 3)).block, (ad.add (k * 3)).off + 1, none⟩ = some (.slice Ad o.l.length cd) := (hr.out.low.cell (p := ⟨(ad.add (k * 3)).block, (ad.add (k * 3)).off + 1, none⟩) hx1).trans hat.c1
          have hpa : PutsAt (fun b => b < w.heap.size) wr Ad o.l := hat.pa.kp (S := fun b => w1.heap.size ≤ b) ⟨hr.out.low.os, hr.out.low.tape, hr.out.low.output, hr.out.low.size, fun b hb hn => hr.out.low.block b (Nat.lt_of_not_le hn)⟩ (fun b h1 h2 => by have := HBW.out.size; omega)
          have ks : wr.cell? ⟨w.heap.size, 2, none⟩ = some (.int .i64 sh.bl) ∧ wr.cell? ⟨(ad.add (k * 3)).block, (ad.add (k * 3)).off + 1, none⟩ = some (.slice Ad o.l.length cd) := ⟨hs2, q1⟩
          have HBS := Lib.hid (blocks_any (fun b => b < w.heap.size) wr.drew sh.bl (by omega) Ad cd o.l (hpa.below (Below.refl _ _).drew) (by omega) (fun p hp => by have := hol.2 p hp; omega) (fun b hb => Nat.lt_of_lt_of_le hb (Nat.le_trans HBW.out.size hr.out.low.size)))
          have HSQ : Hid (Calls Tryd.prog 12 #[.pointer (some ⟨F.s, 0, none⟩)] wr (fun e w' => e = .returned (.int .u64 m.seq) ∧ wr = w')) := by
            obtain ⟨X, _, hst⟩ := hr.out.st
            exact seq_any X wr F sh _ m hst
          have hsq : 0 ≤ m.seq ∧ m.seq ≤ 9000000000001000000 := by
            obtain ⟨X, _, hst⟩ := hr.out.st
            have h1 := hst.sq
            have h2 := hst.nn
            omega
          clear hsb hat hs2 q1 ho hol hx1 hpa
          go_wp2_with (fail)
          refine HSQ.out.mono ?_
          rintro e u ⟨rfl, rfl⟩
          go_wp2_with (fail)
          go_region_held3 (fun u => u.cell? ⟨w.heap.size, 2, none⟩ = some (.int .i64 sh.bl) ∧ u.cell? ⟨(ad.add (k * 3)).block, (ad.add (k * 3)).off + 1, none⟩ = some (.slice Ad o.l.length cd))
            (first | exact ks | exact ks5)
            (first
              | (go_at_call 10
                 with_reducible refine HBS.out.mono ?_
                 rintro e w5 ⟨A5, c5, O, rfl, hinv⟩
                 have ks5 : w5.cell? ⟨w.heap.size, 2, none⟩ = some (.int .i64 sh.bl) ∧ w5.cell? ⟨(ad.add (k * 3)).block, (ad.add (k * 3)).off + 1, none⟩ = some (.slice Ad o.l.length cd) := ⟨below_keep hinv.low ks.1, below_keep hinv.low ks.2⟩
                 have hmp := hinv.mp
                 rw [List.take_length] at hmp
                 have hbl5 : Below wr.heap.size wr w5 := (Below.refl _ wr).drew.trans hinv.low
                 have hpa5 : PutsAt (fun b => b < w1.heap.size ∨ (wr.heap.size ≤ b ∧ b < w5.heap.size)) w5 A5 (O.map (·.p)) := hinv.row.puts (fun b h1 h2 => .inr ⟨h1, h2⟩) (fun q hq => by
                   have h := hinv.ok q hq
                   exact ⟨h.rd, fun ad e h0 => by
                     have hw := HBW.out.size
                     rcases h.xd ad e h0 with hx | hx
                     · exact .inl (by have hx' : ad.block < w.heap.size := hx; omega)
                     · obtain ⟨ad2, e2, hb, _⟩ := h.rd.2 h0
                       obtain rfl := Option.some.inj (e.symm.trans e2)
                       exact .inr ⟨hx, hb⟩, h.cap⟩)
                 rw [hmp] at hpa5
                 have hlen : O.length = (o.l.map (blockM sh.bl)).length := by rw [List.length_map]; exact hinv.len
                 have hcap := hinv.row.cap
                 rw [hlen] at hcap ⊢
                 have hLL : (o.l.map (blockM sh.bl)).length ≤ 30 := by rw [List.length_map]; exact HOL.out.1
                 have hvL : ∀ p ∈ o.l.map (blockM sh.bl), PvOk p := fun p hp => by
                   obtain ⟨q, hq, rfl⟩ := List.mem_map.1 hp
                   exact blockM_ok (by omega) ((HOI.out.l q hq).ok (by have := HOL.out.2 q hq; omega))
                 have H5 := Lib.hid (And.intro hbl5 (And.intro hpa5 (And.intro hcap (And.intro hLL hvL))))
                 clear hinv hmp hbl5 hpa5 hlen hcap hLL hvL
                 generalize o.l.map (blockM sh.bl) = L at *))
          all_goals
            clear ks ks5 HBS HSQ HOI HOL
            have HDV : Hid (Calls Tryd.prog 18 #[.pointer (some ⟨F.s, 0, none⟩)] w5 (fun e w' => e = .returned (.pointer (some ⟨F.d, 0, none⟩)) ∧ w5 = w')) := by
              obtain ⟨X, _, hst⟩ := hr.out.st
              exact dev_any X w5 F sh _ m (hst.below H5.out.1)
            have HZN : Hid (Calls Tryd.prog 19 #[.pointer (some ⟨F.d, 0, none⟩)] w5 (fun e w' => ∃ A c Q, e = .returned (.slice A m.P.length c) ∧ ZOut w5 w' m.P m.P.length A c Q)) := by
              obtain ⟨X, _, hst⟩ := hr.out.st
              exact zones_any _ w5 F.d sh m.P (hst.below H5.out.1).dev
            go_wp2_with (fail)
            refine HDV.out.mono ?_
            rintro e u ⟨rfl, rfl⟩
            go_wp2_with (fail)
            refine HZN.out.mono ?_
            rintro e w7 ⟨A7, c7, Q7, rfl, hz7⟩
            have hb57 : Below w5.heap.size w5 w7 := hz7.low
            have HR7 := Lib.hid hz7.zonesR
            have hbr7 : Below wr.heap.size wr w7 := H5.out.1.trans (hb57.mono H5.out.1.size)
            obtain ⟨X, hX, hst⟩ := hr.out.st
            have hst7 := hst.step (X' := fun b => b < w1.heap.size ∨ (wr.heap.size ≤ b ∧ b < w7.heap.size)) hbr7 (fun b hx => by
              have h1 := hr.out.low.size
              have h2 := hbr7.size
              rcases hx with h | h
              · exact ⟨by omega, .inl (hX b h)⟩
              · exact ⟨h.2, .inr h.1⟩)
            have hpa7 : PutsAt (fun b => b < w1.heap.size ∨ (wr.heap.size ≤ b ∧ b < w7.heap.size)) w7 A5 L := (H5.out.2.1.below hb57).more (fun b hx => by
              have h2 := hb57.size
              rcases hx with h | h
              · exact .inl h
              · exact .inr ⟨h.1, by omega⟩)
            have hnn : 150 * k + 5 * L.length ≤ 150 * (k + 1) ∧ 150 * (k + 1) ≤ 1000000 := by have := HLT.out; have := H5.out.2.2.2.1; omega
            have HNN := Lib.hid hnn
            have hLL := H5.out.2.2.2.1
            have HL7 : Hid (Below w1.heap.size w1 w7) := hr.out.low.trans (hbr7.mono hr.out.low.size)
            cases hao : argOk sh L with
            | false =>
              have HPUT := Lib.hid (put_arg _ w7 F sh (150 * k) m A5 c5 L (by omega) H5.out.2.2.1 hpa7 H5.out.2.2.2.2 hr.out.good (by omega) hst7 hao)
              have HST7 := Lib.hid hst7
              have HGD := Lib.hid hr.out.good
              have HPL : Hid (m.P.length ≤ 256 ∧ ∀ i, i < m.P.length → (m.P.getD i pt0).bs.length ≤ 100000) := ⟨by have h1 := hst7.dev.sz; have h2 := hst7.dev.ok.facts; omega, fun i hi => by have h1 := (hst7.dev.fit hi).fit; have h2 := hst7.dev.ok.facts; omega⟩
              have hpl := HPL.out.1
              clear hz7 hb57 hbr7 hX hst hst7 hpa7 hnn hao HDV HZN hr
              go_wp2_with (fail)
              refine HPUT.out.mono ?_
              rintro e w8 ⟨rfl, hb8⟩
              have HST8 := Lib.hid (HST7.out.below hb8)
              have HR8 := Lib.hid (HR7.out.below hb8)
              have HL8 : Hid (Below w1.heap.size w1 w8) := HL7.out.trans (hb8.mono HL7.out.size)
              have HSQ8 := Lib.hid (seq_any _ w8 F sh _ m HST8.out)
              have HDV8 := Lib.hid (dev_any _ w8 F sh _ m HST8.out)
              have HZN8 := Lib.hid (zones_any _ w8 F.d sh m.P HST8.out.dev)
              clear hb8 HPUT HST7
              have hsub : IntKind.u64.wrap (m.seq - m.seq) = 0 := by rw [Int.sub_self]; rfl
              have hgt : ¬ ((L.length : Nat) : Int) < 0 := by omega
              go_wp2_with (fail)
              refine HSQ8.out.mono ?_
              rintro e u ⟨rfl, rfl⟩
              have hcv : IntKind.u64.wrap ((L.length : Nat) : Int) = (L.length : Nat) := by rw [IntKind.wrap_u64]; omega
              go_wp2_with (fail)
              refine HDV8.out.mono ?_
              rintro e u ⟨rfl, rfl⟩
              go_wp2_with (fail)
              refine HZN8.out.mono ?_
              rintro e w9 ⟨A9, c9, Q9, rfl, hz9⟩
              have HSZ := Lib.hid (samezones_any w9 A7 A9 c7 c9 m.P (by omega) HPL.out.2 (HR8.out.below hz9.low) hz9.zonesR)
              have HN9 : Hid (∀ q, SqS w1 (w9.drewN q) F sh (k + 1) m) := fun q => ⟨⟨_, fun b hb => .inl hb, ((HST8.out.mono (by omega) HNN.out.2).below hz9.low).below (below_drewN (Below.refl _ _) q)⟩, HGD.out, below_drewN (HL8.out.trans (hz9.low.mono HL8.out.size)) q⟩
              clear hz9 HSQ8 HDV8 HZN8 HR8
              go_wp2_with (fail)
              refine HSZ.out.mono ?_
              rintro e w10 ⟨rfl, q, rfl⟩
              go_wp2
              go_roundw
              case rel => exact ⟨k + 1, m, HLT.out, by go_num, HN9.out q⟩
              case measure => have := HLT.out; simp [intOf]; omega
            | true =>
              obtain ⟨f1, f2, f3, f4, f5⟩ := putM_facts hst7.dev.ok hr.out.good hao
              have HPUT := Lib.hid (put_any _ w7 F sh (150 * k) m A5 c5 L (by omega) H5.out.2.2.1 hpa7 H5.out.2.2.2.2 hr.out.good (by omega) hst7)
              have HGD := Lib.hid f1
              have HF5 := Lib.hid (fun h => (f5 h).2)
              clear hz7 hb57 hbr7 hX hst hst7 hpa7 hnn hao HDV HZN hr f1 f5
              go_wp2_with (fail)
              refine HPUT.out.mono ?_
              rintro e w8 ⟨rfl, hst8, hk8⟩
              have HSQ8 := Lib.hid (seq_any _ w8 F sh _ _ hst8)
              have HN8 : Hid (SqS w1 w8 F sh (k + 1) (putM sh m L).2) := ⟨⟨_, fun b hb => .inl hb, hst8.mono HNN.out.1 HNN.out.2⟩, HGD.out, Kp.below HL7.out hk8 HL7.out.size (fun b hb h => h (.inl hb))⟩
              clear hst8 hk8 HPUT HGD
              generalize (putM sh m L).2 = m8 at *
              generalize (putM sh m L).1 = cd8 at *
              obtain ⟨dl, hdl⟩ : ∃ dl, m8.seq - m.seq = dl := ⟨_, rfl⟩
              have hsub : IntKind.u64.wrap (m8.seq - m.seq) = dl := by rw [IntKind.wrap_u64, hdl]; omega
              have hgt : ¬ ((L.length : Nat) : Int) < dl := by omega
              have hcv : IntKind.u64.wrap ((L.length : Nat) : Int) = (L.length : Nat) := by rw [IntKind.wrap_u64]; omega
              have HDL := Lib.hid hdl
              rcases f4 with h0 | h0
              · by_cases h0l : 0 < L.length
                · have hne : ¬ dl = 0 := by have := HF5.out h0 h0l; omega
                  have h0l' : (0 : Int) < (L.length : Nat) := by omega
                  have hd3 : decide (dl = 0) = false := decide_eq_false hne
                  have hb3 : (dl == 0) = false := by simpa using hne
                  subst h0
                  clear hdl f2 f3
                  go_wp2_with (fail)
                  refine HSQ8.out.mono ?_
                  rintro e u ⟨rfl, rfl⟩
                  go_wp2
                  go_roundw
                  case rel => exact ⟨k + 1, m8, HLT.out, by go_num, HN8.out⟩
                  case measure => have := HLT.out; simp [intOf]; omega
                · have h0l' : ¬ (0 : Int) < (L.length : Nat) := by omega
                  subst h0
                  clear hdl f2 f3
                  go_wp2_with (fail)
                  refine HSQ8.out.mono ?_
                  rintro e u ⟨rfl, rfl⟩
                  go_wp2
                  go_roundw
                  case rel => exact ⟨k + 1, m8, HLT.out, by go_num, HN8.out⟩
                  case measure => have := HLT.out; simp [intOf]; omega
              · subst h0
                clear hdl f2 f3
                go_wp2_with (fail)
                refine HSQ8.out.mono ?_
                rintro e u ⟨rfl, rfl⟩
                go_wp2
                go_roundw
                case rel => exact ⟨k + 1, m8, HLT.out, by go_num, HN8.out⟩
                case measure => have := HLT.out; simp [intOf]; omega
        · have HE : Hid (Below w.heap.size w wr) := HBW.out.trans (hr.out.low.mono HBW.out.size)
          have hkl : (k : Int) = l.length := by omega
          clear hr
          go_wp2
          go_ret
          exact ⟨rfl, HE.out⟩
end Go.Proofs.YtgjcofoicnnnhaaDoor
