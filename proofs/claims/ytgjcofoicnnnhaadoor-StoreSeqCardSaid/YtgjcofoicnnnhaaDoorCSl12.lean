/- The law StoreReads, over a list. -/
import Derived.Test.YtgjcofoicnnnhaaDoorMe
import Derived.BigQuiet
namespace Go.Proofs.YtgjcofoicnnnhaaDoor
open Go.RowKit
set_option maxRecDepth 20000

theorem heavy_false {z zb bl : Int} {l : List Pv} (h : heavyM z zb bl l = false) : smallB z zb bl = true ∧ l.length ≤ 30 ∧ ∀ p ∈ l, p.da.length ≤ 200 := by
  unfold heavyM at h
  simp only [Bool.or_eq_false_iff, Bool.not_eq_false', decide_eq_false_iff_not, List.any_eq_false, decide_eq_true_eq] at h
  exact ⟨h.1.1, by omega, fun p hp => by have := h.2 p hp; omega⟩
theorem blockM_ok {bl : Nat} (hbl : bl ≤ 65536) {p : Pv} (h : PvOk p) : PvOk (blockM bl p) := by
  unfold blockM
  split
  · exact h
  · refine ⟨h.n, fun x hx => ?_, ?_⟩
    · rcases List.mem_append.1 hx with hx | hx
      · exact h.by_ x (List.mem_of_mem_take hx)
      · have := List.eq_of_mem_replicate hx
        subst this
        unfold ByteOk
        omega
    · have := cutB_length bl p.da (min bl p.da.length) (by omega) (by omega)
      show (cutB bl p.da (min bl p.da.length)).length ≤ _
      omega
theorem PRow.cap {w : World} {base c : Nat} {A : Option Addr} {O : List Pc} (h : PRow w base A c O) : O.length ≤ c := by
  rcases h.2 with ⟨hv, h0⟩ | ⟨g, cap, cur, hv, hg, hh, hnc, hcm, hcs, ht⟩
  · omega
  · injection hv with e1 e2 e3
    omega
structure LastW (w7 wr : World) (L : List Pv) (i k : Nat) (p : Pv) (A : Option Addr) (c : Nat) : Prop where
  low : Below w7.heap.size w7 wr
  blk : Blk wr w7.heap.size 37 #[.int .u32 p.t, .int .u64 p.b, .bool p.d, .slice A p.da.length c]
  rd : Reads w7 w7.heap.size 1 A p.da.length (nums .u8 p.da)
  last : LastOf L i k p
set_option maxHeartbeats 4000000 in
theorem reads_law (w : World) (z zb bl rs : Int) (hz : -9223372036854775808 ≤ z ∧ z ≤ 9223372036854775807) (hb : -9223372036854775808 ≤ bl ∧ bl ≤ 9223372036854775807) (A : Option Addr) (c : Nat) (l : List Pv) (hc : l.length ≤ c) (hp : PutsAt (fun b => b < w.heap.size) w A l) (hv : ∀ p ∈ l, PvIn p) :
    Calls Tryd.prog 3 #[.agg #[.int .i64 z, .int .i64 zb, .int .i64 bl, .int .i64 rs], .slice A l.length c] w (Makes (.bool true) w) := by
  have HP := Lib.hid hp
  have HV := Lib.hid hv
  have HC := Lib.hid hc
  have HNW := Lib.hid (fun u => snew_any z zb bl rs u hz hb)
  have HK := Lib.hid (fun u => known_any u)
  have hS : Below w.heap.size w (w.alloc (.cells #[.int .i64 z, .int .i64 zb, .int .i64 bl, .int .i64 rs] 23)) := (Below.refl _ _).alloc (Nat.le_refl _) _
  have hO : Below w.heap.size w ((w.alloc (.cells #[.int .i64 z, .int .i64 zb, .int .i64 bl, .int .i64 rs] 23)).alloc (.cells #[.int .u8 0, .slice A l.length c, .int .i64 0] 27)) := hS.alloc hS.size _
  have hg := Blk.new (w.alloc (.cells #[.int .i64 z, .int .i64 zb, .int .i64 bl, .int .i64 rs] 23)) 27 #[.int .u8 0, .slice A l.length c, .int .i64 0]
  simp only [World.size_alloc] at hg
  have HH := Lib.hid (heavy_any _ _ z zb bl rs A c (w.heap.size + 1) l (hp.below hO) hg)
  have HSB : Hid (Blk ((w.alloc (.cells #[.int .i64 z, .int .i64 zb, .int .i64 bl, .int .i64 rs] 23)).alloc (.cells #[.int .u8 0, .slice A l.length c, .int .i64 0] 27)) w.heap.size 23 #[.int .i64 z, .int .i64 zb, .int .i64 bl, .int .i64 rs]) := (Blk.new w _ _).alloc _
  have HB := Lib.hid (And.intro hS hO)
  clear hp hv hc hz hb hS hO hg
  cases hh : heavyM z zb bl l with
  | true =>
    rw [hh] at HH
    simp only [if_true] at HH
    clear hh
    go_enter Tryd.func3, Tryd.ntmps3
    go_wp2_with (fail)
    refine HH.out.mono ?_
    rintro e w2 ⟨rfl, hb2⟩
    have HB2 := Lib.hid (HB.out.2.trans (hb2.mono HB.out.2.size))
    clear hb2
    go_wp2_with (fail)
    refine (HK.out _).mono ?_
    rintro e w3 ⟨rfl, hb3⟩
    have HB3 := Lib.hid (HB2.out.trans (hb3.mono HB2.out.size))
    clear hb3
    go_wp2
    go_ret
    exact ⟨rfl, HB3.out⟩
  | false =>
    rw [hh] at HH
    simp only [Bool.false_eq_true, if_false] at HH
    have HHV := Lib.hid hh
    clear hh
    go_enter Tryd.func3, Tryd.ntmps3
    go_wp2_with (fail)
    refine HH.out.mono ?_
    rintro e w2 ⟨rfl, hb2⟩
    have HB2 := Lib.hid (And.intro (HB.out.2.trans (hb2.mono HB.out.2.size)) (HSB.out.below hb2 HSB.out.lt))
    clear hb2 HH HSB HB
    go_wp2_with (fail)
    refine (HK.out _).mono ?_
    rintro e w3 ⟨rfl, hb3⟩
    have hsb := HB2.out.2.below hb3 HB2.out.2.lt
    have s0 : w3.cell? ⟨w.heap.size, 0, none⟩ = some (.int .i64 z) := hsb.cell 0
    have s1 : w3.cell? ⟨w.heap.size, 1, none⟩ = some (.int .i64 zb) := hsb.cell 1
    have s2 : w3.cell? ⟨w.heap.size, 2, none⟩ = some (.int .i64 bl) := hsb.cell 2
    have s3 : w3.cell? ⟨w.heap.size, 3, none⟩ = some (.int .i64 rs) := hsb.cell 3
    have HB3 := Lib.hid (And.intro (HB2.out.1.trans (hb3.mono HB2.out.1.size)) hsb)
    clear hb3 hsb HB2
    go_wp2_with (fail)
    refine (HNW.out w3).mono ?_
    rintro e w4 ⟨hy, hn, hb4⟩
    have hsb4 := HB3.out.2.below hb4 HB3.out.2.lt
    have HB4 := Lib.hid (And.intro (HB3.out.1.trans (hb4.mono HB3.out.1.size)) (And.intro hsb4 hb4))
    cases hr : rightB z zb bl rs with
    | false =>
      obtain rfl := hn hr
      clear hy hn hr hb4 hsb4 s0 s1 s2 s3
      go_wp2
      go_ret
      exact ⟨rfl, HB4.out.1⟩
    | true =>
      obtain ⟨F, sh, rfl, rfl, rfl, rfl, rfl, hst, hown, hgood⟩ := hy hr
      have HST := Lib.hid (And.intro hst (And.intro hown hgood))
      have s2 : w4.cell? ⟨w.heap.size, 2, none⟩ = some (.int .i64 sh.bl) := hsb4.cell 2
      have hok := hst.dev.ok
      have hbk := hok.blk
      have HBS := Lib.hid (blocks_any (fun b => b < w.heap.size) w4 sh.bl (by omega) A c l ((HP.out.below HB4.out.1)) (by have := (heavy_false HHV.out).2.1; omega) (fun p hp => by have := (heavy_false HHV.out).2.2 p hp; omega) (fun b hb => Nat.lt_of_lt_of_le hb HB4.out.1.size))
      clear hy hn hr hb4 hsb4 hst hown hgood s0 s1 s3 hok
      go_wp2_with (fail)
      refine HBS.out.mono ?_
      rintro e w5 ⟨A5, c5, O, rfl, hinv⟩
      have hsz := HB4.out.1.size
      have hst5 := HST.out.1.step (X' := fun b => b < w.heap.size ∨ (w4.heap.size ≤ b ∧ b < w5.heap.size)) hinv.low (fun b hx => by
        have := hinv.low.size
        rcases hx with h | h
        · exact ⟨by omega, .inl (by have := HB3.out.1.size; show b < w3.heap.size; omega)⟩
        · exact ⟨h.2, .inr h.1⟩)
      have hpa5 : PutsAt (fun b => b < w.heap.size ∨ (w4.heap.size ≤ b ∧ b < w5.heap.size)) w5 A5 (O.map (·.p)) := hinv.row.puts (fun b h1 h2 => .inr ⟨h1, h2⟩) (fun q hq => by
        have h := hinv.ok q hq
        exact ⟨h.rd, fun ad e h0 => by
          rcases h.xd ad e h0 with hx | hx
          · exact .inl hx
          · obtain ⟨ad2, e2, hb, _⟩ := h.rd.2 h0
            obtain rfl := Option.some.inj (e.symm.trans e2)
            exact .inr ⟨hx, hb⟩, h.cap⟩)
      have hmp := hinv.mp
      rw [List.take_length] at hmp
      rw [hmp] at hpa5
      have hlen : O.length = (l.map (blockM sh.bl)).length := by rw [List.length_map]; exact hinv.len
      have hcap := hinv.row.cap
      rw [hlen] at hcap ⊢
      have hvL : ∀ p ∈ l.map (blockM sh.bl), PvOk p := fun p hp => by
        obtain ⟨q, hq, rfl⟩ := List.mem_map.1 hp
        exact blockM_ok (by omega) ((HV.out q hq).ok (by have := (heavy_false HHV.out).2.2 q hq; omega))
      have hLL : (l.map (blockM sh.bl)).length ≤ 30 := by rw [List.length_map]; exact (heavy_false HHV.out).2.1
      have hs5 := HB4.out.2.1.below hinv.low HB4.out.2.1.lt
      have H5 := Lib.hid (And.intro hst5 (And.intro hpa5 (And.intro hcap (And.intro hvL (And.intro hs5 (HB4.out.1.trans (hinv.low.mono hsz)))))))
      clear hst5 hpa5 hcap hvL hs5 hmp hlen hinv hsz s2 HBS
      generalize l.map (blockM sh.bl) = L at *
      go_wp2_with (fail)
      go_loopw [6] (fun i wr => ∃ k : Nat, k ≤ L.length ∧ i = .int .i64 k ∧ Hid (Below w5.heap.size w5 wr ∧ ∀ j, j < k → (L.getD j pv0).d = true ∨ (L.getD j pv0).da.length = sh.bl)) (fun i _ => L.length - (intOf i).toNat)
      case atStart => exact ⟨0, Nat.zero_le _, rfl, ⟨Below.refl _ _, fun j hj => by omega⟩⟩
      case round =>
        obtain ⟨k, hk, rfl, hrel⟩ := hrel
        have s2 : wr.cell? ⟨w.heap.size, 2, none⟩ = some (.int .i64 sh.bl) := (H5.out.2.2.2.2.1.below hrel.out.1 H5.out.2.2.2.2.1.lt).cell 2
        by_cases hlt : k < L.length
        · obtain ⟨ad, Ad, cd, rfl, hat⟩ := H5.out.2.1.below hrel.out.1 k hlt
          have p2 := hat.c2
          have p3 := hat.c3
          have HLT := Lib.hid hlt
          have hvk := (H5.out.2.2.2.1 _ (getD_mem (d := pv0) hlt)).len
          have HNX : Hid (((L.getD k pv0).d = true ∨ (L.getD k pv0).da.length = sh.bl) → ∀ j, j < k + 1 → (L.getD j pv0).d = true ∨ (L.getD j pv0).da.length = sh.bl) := fun h j hj => by
            rcases Nat.lt_or_ge j k with h' | h'
            · exact hrel.out.2 j h'
            · rw [show j = k by omega]; exact h
          have HAF : Hid ((L.getD k pv0).d = false → (L.getD k pv0).da.length ≠ sh.bl → argOk sh L = false) := argOk_false hlt
          have HBR := Lib.hid hrel.out.1
          clear hat hrel
          generalize L.getD k pv0 = p at *
          obtain ⟨pt, pbl, pd, pda⟩ := p
          simp only at p2 p3 HNX HAF hvk
          cases pd with
          | true =>
            go_wp2_with (fail)
            go_quiet (fail)
            have HN6 : Hid (Below w5.heap.size w5 (wr.drewN nq) ∧ ∀ j, j < k + 1 → (L.getD j pv0).d = true ∨ (L.getD j pv0).da.length = sh.bl) := ⟨HBR.out.trans ⟨rfl, rfl, rfl, Nat.le_refl _, fun _ _ => rfl⟩, HNX.out (.inl (by first | rfl | trivial))⟩
            go_wp2
            go_roundw
            case rel => exact ⟨k + 1, HLT.out, by go_num, HN6⟩
            case measure => have := HLT.out; simp [intOf]; omega
          | false =>
            by_cases hle : pda.length = sh.bl
            · have hle' : (pda.length : Int) = sh.bl := by omega
              go_wp2_with (fail)
              go_quiet (fail)
              have HN6 : Hid (Below w5.heap.size w5 (wr.drewN nq) ∧ ∀ j, j < k + 1 → (L.getD j pv0).d = true ∨ (L.getD j pv0).da.length = sh.bl) := ⟨HBR.out.trans ⟨rfl, rfl, rfl, Nat.le_refl _, fun _ _ => rfl⟩, HNX.out (.inr hle)⟩
              go_wp2
              go_roundw
              case rel => exact ⟨k + 1, HLT.out, by go_num, HN6⟩
              case measure => have := HLT.out; simp [intOf]; omega
            · have hle' : ¬ (pda.length : Int) = sh.bl := by omega
              have HA2 := Lib.hid (HAF.out (by first | rfl | trivial) hle)
              go_wp2_with (fail)
              go_quiet (fail)
              have HBQ : Hid (Below w5.heap.size w5 (wr.drewN nq)) := HBR.out.trans ⟨rfl, rfl, rfl, Nat.le_refl _, fun _ _ => rfl⟩
              have hst := H5.out.1.below HBQ.out
              have hpa := H5.out.2.1.below HBQ.out
              have hput := put_any _ _ F sh 0 (newM sh (P0 sh)) _ c5 L (by omega) H5.out.2.2.1 hpa H5.out.2.2.2.1 HST.out.2.2 (by omega) hst
              rw [putM_arg HA2.out] at hput
              have HPUT := Lib.hid hput
              clear hst hpa hput
              go_wp2_with (fail)
              refine HPUT.out.mono ?_
              rintro e w6 ⟨rfl, hst6, hk6⟩
              have hsq := seq_any _ w6 F sh _ (newM sh (P0 sh)) hst6
              rw [show (newM sh (P0 sh)).seq = 0 from rfl] at hsq
              have HSQ := Lib.hid hsq
              have h0 := H5.out.2.2.2.2.2.trans (HBQ.out.mono H5.out.2.2.2.2.2.size)
              have HB6 : Hid (Below w.heap.size w w6) := Kp.below h0 hk6 h0.size (fun b hb h => h (.inl hb))
              clear hst6 hk6 hsq h0 HPUT
              go_wp2_with (fail)
              refine HSQ.out.mono ?_
              rintro e w7 ⟨rfl, rfl⟩
              go_wp2
              go_ret
              exact ⟨rfl, HB6.out⟩
        · obtain rfl : k = L.length := by omega
          have hok := argOk_true hrel.out.2
          have hst := H5.out.1.below hrel.out.1
          have hpa := H5.out.2.1.below hrel.out.1
          have hput := put_any _ _ F sh 0 (newM sh (P0 sh)) A5 c5 L (by omega) H5.out.2.2.1 hpa H5.out.2.2.2.1 HST.out.2.2 (by omega) hst
          obtain ⟨f1, f2, f3, f4, f5⟩ := putM_facts hst.dev.ok HST.out.2.2 hok
          have HB5 : Hid (Below w.heap.size w wr) := H5.out.2.2.2.2.2.trans (hrel.out.1.mono H5.out.2.2.2.2.2.size)
          rcases f4 with h0 | h160
          · rw [h0] at hput
            have HPUT := Lib.hid hput
            have HF := Lib.hid (And.intro f1 (f5 h0).1)
            have HPA := Lib.hid hpa
            clear hok hst hpa hput f1 f2 f3 f5 h0 hrel
            go_wp2_with (fail)
            refine HPUT.out.mono ?_
            rintro e w6 ⟨rfl, hst6, hk6⟩
            have H6 := Lib.hid (And.intro hst6 (And.intro (HPA.out.kx hk6) (Kp.below HB5.out hk6 HB5.out.size (fun b hb h => h (.inl hb)))))
            clear hst6 hk6 HPUT
            generalize (putM sh (newM sh (P0 sh)) L).2 = m2 at *
            generalize 0 + 5 * L.length = n2 at *
            go_wp2_with (fail)
            go_loopw [7] (fun i wr => ∃ k : Nat, k ≤ L.length ∧ i = .int .i64 k ∧ Hid (Below w6.heap.size w6 wr)) (fun i _ => L.length - (intOf i).toNat)
            case atStart => exact ⟨0, Nat.zero_le _, rfl, Below.refl _ _⟩
            case round =>
              obtain ⟨k, hk, rfl, hrel⟩ := hrel
              obtain ⟨w7, rfl⟩ : ∃ w7, w7 = wr := ⟨_, rfl⟩
              by_cases hlt : k < L.length
              · have hpa7 := H6.out.2.1.below hrel.out
                obtain ⟨ad, Ad, cd, rfl, hat⟩ := hpa7 k hlt
                have p0 := hat.c0
                have p1 := hat.c1
                have p2 := hat.c2
                have p3 := hat.c3
                have HLT := Lib.hid hlt
                have HLO := Lib.hid (LastOf.start hlt)
                have H7 := Lib.hid (And.intro hpa7 (And.intro hat.rd (And.intro (H6.out.1.below hrel.out) (H6.out.2.2.trans (hrel.out.mono H6.out.2.2.size)))))
                have HR6 := Lib.hid hrel.out
                clear hpa7 hat hrel
                obtain ⟨pk, hpk⟩ : ∃ pk, L.getD k pv0 = pk := ⟨_, rfl⟩
                have HPK := Lib.hid hpk
                rw [hpk] at p0 p1 p2 p3 HLO H7
                clear hpk
                go_wp2_with (fail)
                go_loopw [9] (fun i wr => ∃ (k2 : Nat) (p : Pv) (A2 : Option Addr) (c2 : Nat), k ≤ k2 ∧ k2 ≤ L.length ∧ i = .int .i64 k2 ∧ Hid (LastW w7 wr L k k2 p A2 c2)) (fun i _ => L.length - (intOf i).toNat)
                case atStart => exact ⟨k, pk, Ad, cd, Nat.le_refl _, Nat.le_of_lt HLT.out, rfl, ⟨(Below.refl _ _).alloc (Nat.le_refl _) _, Blk.new w7 _ _, H7.out.2.1, HLO.out⟩⟩
                case round =>
                  obtain ⟨k2, p, A2, c2, hk1, hk2, rfl, hrel⟩ := hrel
                  by_cases hlt2 : k2 < L.length
                  · have hpa8 := H7.out.1.below hrel.out.low
                    obtain ⟨ad', Adk, cdk, e1, hatk⟩ := hpa8 k HLT.out
                    obtain rfl := Option.some.inj e1
                    obtain ⟨ad', Ad2, cd2, e2, hat2⟩ := hpa8 k2 hlt2
                    obtain rfl := Option.some.inj e2
                    rw [HPK.out] at hatk
                    have q0 := hatk.c0
                    have q1 := hatk.c1
                    have r0 := hat2.c0
                    have r1 := hat2.c1
                    have r2 := hat2.c2
                    have r3 := hat2.c3
                    have z0 : wr.cell? ⟨w7.heap.size, 0, none⟩ = some (.int .u32 p.t) := hrel.out.blk.cell 0
                    have z1 : wr.cell? ⟨w7.heap.size, 1, none⟩ = some (.int .u64 p.b) := hrel.out.blk.cell 1
                    have z2 : wr.cell? ⟨w7.heap.size, 2, none⟩ = some (.bool p.d) := hrel.out.blk.cell 2
                    have z3 : wr.cell? ⟨w7.heap.size, 3, none⟩ = some (.slice A2 p.da.length c2) := hrel.out.blk.cell 3
                    have hf : ∀ i, wr.frozen? ⟨w7.heap.size, i, none⟩ = false := fun i => hrel.out.blk.frozen i
                    have HLT2 := Lib.hid hlt2
                    have HST := Lib.hid (hrel.out.last.step hk1 hlt2)
                    have HRD2 : Hid (Reads w7 w7.heap.size 1 Ad2 (L.getD k2 pv0).da.length (nums .u8 (L.getD k2 pv0).da)) := by
                      obtain ⟨ad', Ad3, cd3, e2, hat3⟩ := H7.out.1 k2 hlt2
                      obtain rfl := Option.some.inj e2
                      have e3 := hrel.out.low.cell (World.block_lt_of_cell? _ _ hat3.c3)
                      rw [hat3.c3, r3] at e3
                      simp only [Option.some.injEq, Value.slice.injEq] at e3
                      rw [e3.1]
                      exact hat3.rd
                    have HRW := Lib.hid hrel.out
                    rw [HPK.out] at HST
                    clear hatk hat2 hpa8 hrel e1 e2
                    obtain ⟨q, hq⟩ : ∃ q, L.getD k2 pv0 = q := ⟨_, rfl⟩
                    rw [hq] at r0 r1 r2 r3 HST HRD2
                    clear hq
                    have HDR : Hid (∀ n, LastW w7 (wr.drewN n) L k k2 p A2 c2) := fun n => ⟨below_drewN HRW.out.low n, HRW.out.blk.drewN n, HRW.out.rd, HRW.out.last⟩
                    by_cases ht : q.t = pk.t
                    · by_cases hb : q.b = pk.b
                      · have hqn : q.n = pk.n := by unfold Pv.n; rw [ht, hb]
                        have HNX : Hid (∀ n, LastW w7 (((((wr.drewN n).setCell ⟨w7.heap.size, 0, none⟩ (.int .u32 pk.t)).setCell ⟨w7.heap.size, 1, none⟩ (.int .u64 pk.b)).setCell ⟨w7.heap.size, 2, none⟩ (.bool q.d)).setCell ⟨w7.heap.size, 3, none⟩ (.slice Ad2 q.da.length cd2)) L k (k2 + 1) q Ad2 cd2) := fun n => by
                          have h := HST.out
                          rw [if_pos hqn] at h
                          rw [← ht, ← hb]
                          exact ⟨((((HDR.out n).low.setCell (p := ⟨w7.heap.size, 0, none⟩) (Nat.le_refl _) _).setCell (p := ⟨w7.heap.size, 1, none⟩) (Nat.le_refl _) _).setCell (p := ⟨w7.heap.size, 2, none⟩) (Nat.le_refl _) _).setCell (p := ⟨w7.heap.size, 3, none⟩) (Nat.le_refl _) _, blk_set4 (HDR.out n).blk _ _ _ _, HRD2.out, h⟩
                        clear hqn HST
                        go_wp2_with (fail)
                        go_quiet (fail)
                        go_wp2
                        go_roundw
                        case rel => exact ⟨k2 + 1, q, Ad2, cd2, by omega, HLT2.out, by go_num, HNX.out _⟩
                        case measure => have := HLT2.out; simp [intOf]; omega
                      · have hqn : ¬ q.n = pk.n := by unfold Pv.n; intro e; exact hb (congrArg Prod.snd e)
                        have HNX : Hid (∀ n, LastW w7 (wr.drewN n) L k (k2 + 1) p A2 c2) := fun n => by
                          have h := HST.out
                          rw [if_neg hqn] at h
                          exact ⟨(HDR.out n).low, (HDR.out n).blk, (HDR.out n).rd, h⟩
                        clear hqn HST
                        go_wp2_with (fail)
                        go_quiet (fail)
                        go_wp2
                        go_roundw
                        case rel => exact ⟨k2 + 1, p, A2, c2, by omega, HLT2.out, by go_num, HNX.out _⟩
                        case measure => have := HLT2.out; simp [intOf]; omega
                    · have hqn : ¬ q.n = pk.n := by unfold Pv.n; intro e; exact ht (congrArg Prod.fst e)
                      have HNX : Hid (∀ n, LastW w7 (wr.drewN n) L k (k2 + 1) p A2 c2) := fun n => by
                        have h := HST.out
                        rw [if_neg hqn] at h
                        exact ⟨(HDR.out n).low, (HDR.out n).blk, (HDR.out n).rd, h⟩
                      clear hqn HST
                      go_wp2_with (fail)
                      go_quiet (fail)
                      go_wp2
                      go_roundw
                      case rel => exact ⟨k2 + 1, p, A2, c2, by omega, HLT2.out, by go_num, HNX.out _⟩
                      case measure => have := HLT2.out; simp [intOf]; omega
                  · obtain rfl : k2 = L.length := by omega
                    have hpok := H5.out.2.2.2.1 p hrel.out.last.mem
                    have hdat := hrel.out.last.data HLT.out HF.out.2
                    have z0 : wr.cell? ⟨w7.heap.size, 0, none⟩ = some (.int .u32 p.t) := hrel.out.blk.cell 0
                    have z1 : wr.cell? ⟨w7.heap.size, 1, none⟩ = some (.int .u64 p.b) := hrel.out.blk.cell 1
                    have hst8 := H7.out.2.2.1.below hrel.out.low
                    have hgt := get_any _ wr F sh n2 m2 p.n hpok.n HF.out.1 hst8
                    have HGT := Lib.hid hgt
                    have HDAT := Lib.hid hdat
                    have HPOK := Lib.hid hpok
                    have HRW := Lib.hid hrel.out
                    have HB8 := Lib.hid (HR6.out.trans (hrel.out.low.mono HR6.out.size))
                    clear hgt hdat hpok hst8 hrel
                    go_wp2_with (fail)
                    refine HGT.out.mono ?_
                    rintro e w8 ⟨hno, hyes, hb8⟩
                    have hblk := HRW.out.blk.below hb8 HRW.out.blk.lt
                    have z2 : w8.cell? ⟨w7.heap.size, 2, none⟩ = some (.bool p.d) := hblk.cell 2
                    have z3 : w8.cell? ⟨w7.heap.size, 3, none⟩ = some (.slice A2 p.da.length c2) := hblk.cell 3
                    have HB9 := Lib.hid (HB8.out.trans (hb8.mono HB8.out.size))
                    cases hd : p.d with
                    | true =>
                      have hdn := HDAT.out
                      rw [hd, if_pos rfl] at hdn
                      obtain rfl := hno hdn
                      rw [hd] at z2
                      clear hno hyes hb8 hblk z0 z1 hdn hd
                      go_wp2
                      go_roundw
                      case rel => exact ⟨k + 1, HLT.out, by go_num, HB9.out⟩
                      case measure => have := HLT.out; simp [intOf]; omega
                    | false =>
                      have hdn := HDAT.out
                      rw [hd, if_neg (by decide)] at hdn
                      obtain ⟨A9, c9, rfl, hrow, hlen⟩ := hyes _ hdn
                      rw [hd] at z2
                      have hr9 := hrow.reads
                      rw [hlen] at hr9
                      have hr2 := ((HRW.out.rd.below (HRW.out.low.trans (hb8.mono HRW.out.low.size)))).more (Nat.le_trans HRW.out.low.size hb8.size)
                      have hsm := same_any w8 A9 sh.bl c9 p.da A2 p.da.length c2 p.da hr9 hr2 HPOK.out.by_ HPOK.out.by_
                      rw [decide_eq_true rfl] at hsm
                      have HSM := Lib.hid hsm
                      clear hno hyes hb8 hblk z0 z1 hdn hd hrow hlen hr9 hr2 hsm
                      go_wp2_with (fail)
                      refine HSM.out.mono ?_
                      rintro e w9 ⟨rfl, rfl⟩
                      go_wp2
                      go_roundw
                      case rel => exact ⟨k + 1, HLT.out, by go_num, HB9.out⟩
                      case measure => have := HLT.out; simp [intOf]; omega
              · obtain rfl : k = L.length := by omega
                have HB7 := Lib.hid (H6.out.2.2.trans (hrel.out.mono H6.out.2.2.size))
                clear hrel
                go_wp2
                go_ret
                exact ⟨rfl, HB7.out⟩
          · rw [h160] at hput
            have HPUT := Lib.hid hput
            clear hok hst hpa hput f1 f2 f3 f5 h160 hrel
            go_wp2_with (fail)
            refine HPUT.out.mono ?_
            rintro e w6 ⟨rfl, hst6, hk6⟩
            have HB6 : Hid (Below w.heap.size w w6) := Kp.below HB5.out hk6 HB5.out.size (fun b hb h => h (.inl hb))
            clear hst6 hk6 HPUT
            go_wp2
            go_ret
            exact ⟨rfl, HB6.out⟩
end Go.Proofs.YtgjcofoicnnnhaaDoor
