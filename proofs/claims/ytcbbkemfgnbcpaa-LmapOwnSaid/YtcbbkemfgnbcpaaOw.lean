/- LmapOwn: the walk. -/
import Derived.Test.YtcbbkemfgnbcpaaAl2
import Derived.Test.YtcbbkemfgnbcpaaLa
namespace Go.Proofs.Ytcbbkemfgnbcpaa
open Go.RowKit

/-- The place that is written over. -/
def p99 : Pl := ⟨99, 0, 0, 0⟩
theorem plCs_set : ∀ (S : List Pl) (k : Nat) (p : Pl), k < S.length →
    plCs (S.set k p) = ((((plCs S).set (k * 4) (.int .u32 p.t)).set (k * 4 + 1) (.int .u64 p.b)).set (k * 4 + 2) (.int .i64 p.z)).set (k * 4 + 3) (.int .i64 p.k)
  | [], k, p, h => by simp at h
  | q :: r, 0, p, _ => by simp [plCs, plC]
  | q :: r, k + 1, p, h => by
    have ih := plCs_set r k p (by simpa using h)
    have e1 : plCs ((q :: r).set (k + 1) p) = plC q ++ plCs (r.set k p) := by simp [plCs]
    have e2 : plCs (q :: r) = plC q ++ plCs r := by simp [plCs]
    have e3 : ∀ (j : Nat) (u : Value) (ys : List Value), (plC q ++ ys).set (j + 4) u = plC q ++ ys.set j u := fun j u ys => by simp [plC]
    rw [e1, e2, ih, show (k + 1) * 4 = k * 4 + 4 by omega, show k * 4 + 4 + 1 = (k * 4 + 1) + 4 by omega, show k * 4 + 4 + 2 = (k * 4 + 2) + 4 by omega, show k * 4 + 4 + 3 = (k * 4 + 3) + 4 by omega, e3, e3, e3, e3]

/-- A list of places at the end of memory, and what it leaves alone. -/
structure Own (u w : World) (A : Option Addr) (c : Nat) (S : List Pl) : Prop where
  own : OwnPl w u.heap.size A c S
  bl : Below u.heap.size u w
section
variable {u w w' : World} {A : Option Addr} {c : Nat} {S : List Pl}
theorem Own.below (h : Own u w A c S) (hb : Below w.heap.size w w') : Own u w' A c S := ⟨h.own.below hb, h.bl.trans (hb.mono h.bl.size)⟩
theorem Own.cells (h : Own u w A c S) {k : Nat} (hk : k < S.length) : ∃ r, A = some ⟨r, 0, none⟩ ∧
    w.cell? ⟨r, k * 4, none⟩ = some (.int .u32 (S.getD k p0).t) ∧ w.cell? ⟨r, k * 4 + 1, none⟩ = some (.int .u64 (S.getD k p0).b) ∧ w.cell? ⟨r, k * 4 + 2, none⟩ = some (.int .i64 (S.getD k p0).z) ∧ w.cell? ⟨r, k * 4 + 3, none⟩ = some (.int .i64 (S.getD k p0).k) ∧
    (∀ j, w.frozen? ⟨r, j, none⟩ = false) := by
  obtain ⟨r, rfl, hp⟩ := h.own.row (by omega)
  exact ⟨r, rfl, hp.c0 k hk, hp.c1 k hk, hp.c2 k hk, hp.c3 k hk, fun j => World.ownsRow.frozenAt h.own j⟩
theorem Own.put {r : Nat} (h : Own u w (some ⟨r, 0, none⟩) c S) {k : Nat} (hk : k < S.length) (p : Pl) :
    Own u ((((w.setCell ⟨r, k * 4, none⟩ (.int .u32 p.t)).setCell ⟨r, k * 4 + 1, none⟩ (.int .u64 p.b)).setCell ⟨r, k * 4 + 2, none⟩ (.int .i64 p.z)).setCell ⟨r, k * 4 + 3, none⟩ (.int .i64 p.k)) (some ⟨r, 0, none⟩) c (S.set k p) := by
  have hr : u.heap.size ≤ r := (World.ownsRow.lt h.own r rfl).1
  refine ⟨?_, (((h.bl.setCell (p := ⟨r, k * 4, none⟩) hr _).setCell (p := ⟨r, k * 4 + 1, none⟩) hr _).setCell (p := ⟨r, k * 4 + 2, none⟩) hr _).setCell (p := ⟨r, k * 4 + 3, none⟩) hr _⟩
  have h1 := (World.ownsRow.stored (World.ownsRow.stored (World.ownsRow.stored (World.ownsRow.stored h.own (k * 4) (.int .u32 p.t)).1 (k * 4 + 1) (.int .u64 p.b)).1 (k * 4 + 2) (.int .i64 p.z)).1 (k * 4 + 3) (.int .i64 p.k)).1
  unfold OwnPl
  rw [plCs_set S k p hk, List.length_set]
  exact h1
end

set_option maxRecDepth 20000 in
set_option maxHeartbeats 8000000 in
theorem own_walk (A : Option Addr) (c : Nat) (l : List Ox) (w : World) (hlc : l.length ≤ c) (R : OpsAt w w.heap.size A l) (hok : ∀ i, i < l.length → OxOk (l.getD i o0)) :
    Calls Try.prog 5 #[.slice A l.length c] w (Okay w) := by
  have HR := Lib.hid R
  have HOK := Lib.hid hok
  have HLC := Lib.hid hlc
  clear R hok hlc
  go_enter Try.func5, Try.ntmps5
  by_cases h150 : 150 < l.length
  · go_wp2_with (fail)
    refine (known_any _).mono ?_
    rintro e w1 ⟨rfl, hb1⟩
    go_wp2
    go_ret
    exact ⟨rfl, hb1⟩
  · go_wp2_with (fail)
    refine (known_any _).mono ?_
    rintro e w1 ⟨rfl, hb1⟩
    have HB1 := Lib.hid hb1
    clear hb1
    go_wp2_with (fail)
    refine (lnew_any _).mono ?_
    rintro e w2 ⟨f, rfl, hf, hl, hb⟩
    have HB2 := Lib.hid (HB1.out.trans (hb.mono HB1.out.size))
    have HF : Hid (∀ i, f.S i → w.heap.size ≤ i) := fun i hi => Nat.le_trans HB1.out.size (hf i hi)
    have HL := Lib.hid hl
    clear hf hl hb
    go_wp2_with (fail)
    refine (rnew_any _).mono ?_
    rintro e w3 ⟨g, rfl, hg, hr, hb⟩
    have hmr : MR w w3 f g 0 [] [] := ⟨HL.out.below hb, hr, HB2.out.trans (hb.mono HB2.out.size), HF.out, Nat.le_trans HB2.out.size hg, Nat.le_refl _⟩
    have HMR := Lib.hid hmr
    clear hg hr hb hmr HL HB1 HB2 HF
    go_wp2_with (fail)
    go_loopw [5] (fun i wr => ∃ (k : Nat) (L M : List Pl), k ≤ l.length ∧ i = .int .i64 k ∧ Hid (MR w wr f g (3 * k) L M) ∧ Hid (Twin L M)) (fun i _ => l.length - (intOf i).toNat)
    case atStart => exact ⟨0, [], [], Nat.zero_le _, rfl, HMR, Twin.nil⟩
    case round =>
      obtain ⟨k, L, M, hk, rfl, hm, htw⟩ := hrel
      by_cases hlt : k < l.length
      · obtain ⟨ad, rfl, hadb, hat⟩ := HR.out k hlt
        have hat' := hat.below hm.out.bl (by rw [block_of_add]; exact hadb)
        obtain ⟨c0, c1, c2, c3, c4⟩ := hat'
        have HOX := Lib.hid (HOK.out k hlt)
        generalize l.getD k o0 = x at *
        have HD := Lib.hid (does_any w wr f g (3 * k) L M x HOX.out (by omega) hm.out)
        unfold opV at HD
        clear hat
        go_wp2_with (fail)
        refine HD.out.mono ?_
        rintro e w4 ⟨rfl, hm4⟩
        have HM4 : Hid (MR w w4 f g (3 * (k + 1)) (stepL x L) (stepR x M)) := hm4
        have HTW4 : Hid (Twin (stepL x L) (stepR x M)) := htw.out.step x
        clear hm4 c0 c1 c2 c3 c4
        go_wp2
        go_round
        case rel => exact ⟨k + 1, _, _, hlt, by go_num, HM4, HTW4⟩
        case measure => simp [intOf]; omega
      · have HN : Hid (3 * k ≤ 1000) := by unfold Hid; omega
        have hkl : (k : Int) = l.length := by omega
        clear HMR
        generalize 3 * k = n at *
        obtain ⟨W5, rfl⟩ : ∃ W5, W5 = wr := ⟨_, rfl⟩
        go_wp2_with (fail)
        refine (lall_any W5 f n L (by have := HN.out; omega) hm.out.lm).mono ?_
        rintro e w4 ⟨A4, c4, S4, rfl, ho4, hp4, hr4, hb4⟩
        have HO4 : Hid (Own W5 w4 A4 c4 S4) := ⟨ho4, hb4⟩
        have HS4 : Hid (S4.length ≤ 1000) := by
          have h1 := hp4.length_eq
          have h2 := hm.out.lm.len
          have h3 := HN.out
          unfold Hid
          omega
        clear ho4 hp4 hr4 hb4
        go_wp2_with (fail)
        obtain ⟨m, hm4⟩ : ∃ m, S4.length = m := ⟨_, rfl⟩
        rw [hm4] at HS4 ⊢
        go_loopw [7] (fun i w6 => ∃ (j : Nat) (S : List Pl), j ≤ m ∧ S.length = m ∧ i = .int .i64 j ∧ Hid (Own W5 w6 A4 c4 S)) (fun i _ => m - (intOf i).toNat)
        case atStart => exact ⟨0, S4, Nat.zero_le _, hm4, rfl, HO4⟩
        case round =>
          obtain ⟨j, S, hj, hSl, rfl, ho⟩ := hrel
          clear HO4 hm4
          by_cases hlt : j < m
          · have HLT := Lib.hid hlt
            obtain ⟨r, rfl, b0, b1, b2, b3, b4⟩ := ho.out.cells (k := j) (by omega)
            have HSL := Lib.hid hSl
            have hm1000 : m ≤ 1000 := HS4.out
            generalize S.getD j p0 = x at *
            clear hSl
            go_wp2_with (fail)
            have hmr := hm.out.below ho.out.bl
            refine (lin_any wr f n L x.z (by have := HN.out; omega) hmr.lm).mono ?_
            rintro e w7 ⟨A7, c7, S7, rfl, ho7, hp7, hr7, hb7⟩
            have HO7 : Hid (Own wr w7 A7 c7 S7) := ⟨ho7, hb7⟩
            have HS7 : Hid (S7.length ≤ 1000) := by
              have h1 := hp7.length_eq
              have h2 : (ofZ x.z L).length ≤ L.length := List.length_filter_le _ _
              have h3 := hm.out.lm.len
              have h4 := HN.out
              unfold Hid
              omega
            clear hmr ho7 hp7 hr7 hb7 b0 b1 b2 b3 b4
            go_wp2_with (fail)
            obtain ⟨W8, rfl⟩ : ∃ W8, W8 = wr := ⟨_, rfl⟩
            obtain ⟨m7, hm7⟩ : ∃ m7, S7.length = m7 := ⟨_, rfl⟩
            rw [hm7] at HS7 ⊢
            go_loopw [9] (fun i w6 => ∃ (q : Nat) (S8 : List Pl), q ≤ m7 ∧ S8.length = m7 ∧ i = .int .i64 q ∧ Hid (Own W8 w6 A7 c7 S8)) (fun i _ => m7 - (intOf i).toNat)
            case atStart => exact ⟨0, S7, Nat.zero_le _, hm7, rfl, HO7⟩
            case round =>
              obtain ⟨q, S8, hq, hSl8, rfl, ho8⟩ := hrel
              clear HO7 hm7
              by_cases hlt8 : q < m7
              · have HLT8 := Lib.hid hlt8
                obtain ⟨r8, rfl, b0, b1, b2, b3, b4⟩ := ho8.out.cells (k := q) (by omega)
                have HSL8 := Lib.hid hSl8
                have hm7000 : m7 ≤ 1000 := HS7.out
                generalize S8.getD q p0 = y at *
                clear hSl8
                go_wp2_with (fail)
                refine ⟨⟨q + 1, S8.set q p99, HLT8.out, by rw [List.length_set]; exact HSL8.out, by go_num, ho8.out.put (by rw [HSL8.out]; exact HLT8.out) p99⟩, ?_⟩
                simp [intOf]
                have := HLT8.out
                omega
              · have hqm : (q : Int) = m7 := by omega
                have HO9 := Lib.hid (ho.out.below ho8.out.bl)
                obtain ⟨r9, hr9, b0, b1, b2, b3, b4⟩ := HO9.out.cells (k := j) (by rw [HSL.out]; exact HLT.out)
                obtain rfl : r = r9 := by simpa using hr9
                have hj1 : (j : Int) + 1 ≤ 1001 := by have := HLT.out; omega
                have hm1 := HLT.out
                generalize S.getD j p0 = y at *
                clear hr9
                go_wp2_with (fail)
                refine ⟨⟨j + 1, S.set j p99, HLT.out, by rw [List.length_set]; exact HSL.out, by go_num, HO9.out.put (by rw [HSL.out]; exact HLT.out) p99⟩, ?_⟩
                simp [intOf]
                have := HLT.out
                omega
          · have hjm : (j : Int) = m := by omega
            have hbl := ho.out.bl
            have hmr := hm.out.below hbl
            have hMn : M.length ≤ 1000000 := by have := hm.out.len; have := HN.out; omega
            go_wp2_with (fail)
            refine (lall_any wr f n L (by have := HN.out; omega) hmr.lm).mono ?_
            rintro e w7 ⟨A7, c7, S7, rfl, ho7, hp7, hr7, hb7⟩
            obtain rfl : S7 = M := rising_ext hr7 htw.out.rise (hp7.trans htw.out.perm.symm)
            have HM7 := Lib.hid (hmr.below hb7)
            have HO7 := Lib.hid ho7
            clear hp7 hr7 hb7 ho7 hmr hbl
            go_wp2_with (fail)
            refine (rall_any w7 g S7 hMn HM7.out.rm).mono ?_
            rintro e w8 ⟨A8, c8, rfl, ho8, hb8⟩
            have HM8 := Lib.hid (HM7.out.below hb8)
            have HR7 := Lib.hid (OwnPl.row (HO7.out.below hb8))
            have HR8 := Lib.hid ho8.row
            clear ho8 hb8
            go_wp2_with (fail)
            refine (same_any w8 A7 A8 c7 c8 S7 hMn HR7.out HR8.out).mono ?_
            rintro e w9 ⟨rfl, nn, rfl⟩
            have HB9 := Lib.hid (HM8.out.drewN nn).bl
            go_wp2
            go_ret
            exact ⟨rfl, HB9.out⟩
end Go.Proofs.Ytcbbkemfgnbcpaa
