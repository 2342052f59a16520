/- LmapLast: the walk. -/
import Derived.Test.YtcbbkemfgnbcpaaMr
import Derived.Deep.Cut
namespace Go.Proofs.Ytcbbkemfgnbcpaa
open Go.RowKit

/-- The maps, the call that is looked at, a place that was told. -/
structure La (W w : World) (f : LFp) (g n : Nat) (L M : List Pl) (b : Nat) (o : Ox) (s : Nat) (a : Int × Int) : Prop where
  mr : MR W w f g n L M
  box : Blk w b 35 #[.bool o.d, .int .u32 o.p.t, .int .u64 o.p.b, .int .i64 o.p.z, .int .i64 o.p.k]
  was : Blk w s 31 #[.int .i64 a.1, .int .i64 a.2]
section
variable {W w w' : World} {f : LFp} {g n : Nat} {L M L' : List Pl} {b : Nat} {o : Ox} {s : Nat} {a : Int × Int}
theorem La.below (h : La W w f g n L M b o s a) (hb : Below w.heap.size w w') : La W w' f g n L M b o s a := ⟨h.mr.below hb, h.box.below hb h.box.lt, h.was.below hb h.was.lt⟩
theorem La.alloc (h : La W w f g n L M b o s a) (ob : Obj) : La W (w.alloc ob) f g n L M b o s a := h.below ((Below.refl _ _).alloc (Nat.le_refl _) ob)
theorem La.step (h : La W w f g n L M b o s a) {m : Nat} (hm : n ≤ m) (hl : LM w' f m L') (hk : Kp f.T w w') : La W w' f g m L' M b o s a :=
  ⟨h.mr.step_l hm hl hk, hk.blk h.box (h.mr.lm.no_cells h.box), hk.blk h.was (h.mr.lm.no_cells h.was)⟩
theorem La.cells (h : La W w f g n L M b o s a) : (w.cell? ⟨b, 0, none⟩ = some (.bool o.d) ∧ w.cell? ⟨b, 1, none⟩ = some (.int .u32 o.p.t) ∧ w.cell? ⟨b, 2, none⟩ = some (.int .u64 o.p.b) ∧ w.cell? ⟨b, 3, none⟩ = some (.int .i64 o.p.z) ∧ w.cell? ⟨b, 4, none⟩ = some (.int .i64 o.p.k)) ∧
    w.cell? ⟨s, 0, none⟩ = some (.int .i64 a.1) ∧ w.cell? ⟨s, 1, none⟩ = some (.int .i64 a.2) :=
  ⟨⟨h.box.cell 0, h.box.cell 1, h.box.cell 2, h.box.cell 3, h.box.cell 4⟩, h.was.cell 0, h.was.cell 1⟩
/-- Getting, where it is known what is told. -/
theorem La.get (h : La W w f g n L M b o s a) (m : Int × Int) (hm : NameOk m) {r : Option (Int × Int)} (hr : atOf L m = r) {x : Int × Int} {is : Bool} (hx : r.getD (0, 0) = x) (hi : r.isSome = is) : Calls Try.prog 14 #[.pointer (some ⟨f.g, 0, none⟩), .int .u32 m.1, .int .u64 m.2] w
    (fun e w' => e = .returned (.tuple #[.agg #[.int .i64 x.1, .int .i64 x.2], .bool is]) ∧ La W w' f g n L M b o s a) := by
  refine (lget_any w f n L m hm h.mr.lm).mono ?_
  rintro e w' ⟨rfl, hb⟩
  rw [hr, hx, hi]
  exact ⟨rfl, h.below hb⟩
theorem La.at_ (h : La W w f g n L M b o s a) (c : Int × Int) (hc : AddrOk c) {r : Option (Int × Int)} (hr : inAt L c = r) {q : Pl} {is : Bool} (hq : inPl L c = q) (hi : r.isSome = is) : Calls Try.prog 16 #[.pointer (some ⟨f.g, 0, none⟩), .agg #[.int .i64 c.1, .int .i64 c.2]] w
    (fun e w' => e = .returned (.tuple #[.agg #[.int .u32 q.t, .int .u64 q.b, .int .i64 q.z, .int .i64 q.k], .bool is]) ∧ La W w' f g n L M b o s a ∧ Below w.heap.size w w') := by
  refine (lat_any w f n L c hc h.mr.lm).mono ?_
  rintro e w' ⟨rfl, hb⟩
  rw [hr, hq, hi]
  exact ⟨rfl, h.below hb, hb⟩
theorem La.drop (h : La W w f g n L M b o s a) (m : Int × Int) (hm : NameOk m) (hn : n < 1000000) {r : Option (Int × Int)} (hr : atOf L m = r) {is : Bool} (hi : r.isSome = is) : Calls Try.prog 12 #[.pointer (some ⟨f.g, 0, none⟩), .int .u32 m.1, .int .u64 m.2] w
    (fun e w' => e = .returned (.bool is) ∧ La W w' f g (n + 1) (cut L m) M b o s a) := by
  refine (ldrop_any w f n L m hm h.mr.lm (by simp only [maxLen]; omega)).mono ?_
  rintro e w' ⟨rfl, hl, hk⟩
  rw [hr, hi]
  exact ⟨rfl, h.step (Nat.le_succ n) hl hk⟩
theorem La.put (h : La W w f g n L M b o s a) (p : Pl) (hp : NameOk p.n ∧ AddrOk p.a) (hn : n < 1000000) : Calls Try.prog 13 #[.pointer (some ⟨f.g, 0, none⟩), .agg #[.int .u32 p.t, .int .u64 p.b, .int .i64 p.z, .int .i64 p.k]] w
    (fun e w' => e = .returned (.tuple #[]) ∧ La W w' f g (n + 3) (p :: free (cut L p.n) p.a) M b o s a) := by
  refine (lput_any w f n L p hp h.mr.lm (by simp only [maxLen]; omega)).mono ?_
  rintro e w' ⟨rfl, hl, hk⟩
  exact ⟨rfl, h.step (Nat.le_add_right n 3) hl hk⟩
end

set_option maxRecDepth 20000 in
set_option maxHeartbeats 8000000 in
theorem last_walk (A : Option Addr) (c : Nat) (l : List Ox) (o : Ox) (w : World) (hlc : l.length ≤ c) (R : OpsAt w w.heap.size A l) (hok : ∀ i, i < l.length → OxOk (l.getD i o0)) (ho : OxOk o) :
    Calls Try.prog 4 #[.slice A l.length c, opV o] w (Okay w) := by
  obtain ⟨W1, hW1⟩ : ∃ W1, W1 = w.alloc (.cells #[.bool o.d, .int .u32 o.p.t, .int .u64 o.p.b, .int .i64 o.p.z, .int .i64 o.p.k] 35) := ⟨_, rfl⟩
  have hB : Hid (Blk W1 w.heap.size 35 #[.bool o.d, .int .u32 o.p.t, .int .u64 o.p.b, .int .i64 o.p.z, .int .i64 o.p.k]) := by rw [hW1]; exact Blk.new w _ _
  have hOut : Hid (∀ w', Below W1.heap.size W1 w' → Below w.heap.size w w') := fun w' hb => by
    rw [hW1] at hb
    exact ((Below.refl _ _).alloc (Nat.le_refl _) _).trans (hb.mono (by simp))
  have hsz : Hid (w.heap.size < W1.heap.size) := by unfold Hid; rw [hW1]; simp
  have HR : Hid (OpsAt W1 w.heap.size A l) := by rw [hW1]; exact R.below ((Below.refl _ _).alloc (Nat.le_refl _) _)
  have HOK := Lib.hid hok
  have HO := Lib.hid ho
  have HLC := Lib.hid hlc
  clear R hok ho hlc
  unfold opV
  go_enter Try.func4, Try.ntmps4
  go_upto_region 1 with (fail)
  rw [← hW1]
  clear hW1
  by_cases h150 : 150 < l.length
  · go_wp2_with (fail)
    refine (known_any _).mono ?_
    rintro e w1 ⟨rfl, hb1⟩
    go_wp2
    go_ret
    exact ⟨rfl, hOut.out _ hb1⟩
  · go_wp2_with (fail)
    refine (known_any _).mono ?_
    rintro e w1 ⟨rfl, hb1⟩
    have HB1 := Lib.hid hb1
    clear hb1
    go_wp2_with (fail)
    refine (lnew_any _).mono ?_
    rintro e w2 ⟨f, rfl, hf, hl, hb⟩
    have HB2 := Lib.hid (HB1.out.trans (hb.mono HB1.out.size))
    have HF : Hid (∀ i, f.S i → W1.heap.size ≤ i) := fun i hi => Nat.le_trans HB1.out.size (hf i hi)
    have HL := Lib.hid hl
    clear hf hl hb
    go_wp2_with (fail)
    refine (rnew_any _).mono ?_
    rintro e w3 ⟨g, rfl, hg, hr, hb⟩
    have hmr : MR W1 w3 f g 0 [] [] := ⟨HL.out.below hb, hr, HB2.out.trans (hb.mono HB2.out.size), HF.out, Nat.le_trans HB2.out.size hg, Nat.le_refl _⟩
    have HMR := Lib.hid hmr
    clear hg hr hb hmr HL HB1 HB2 HF
    go_wp2_with (fail)
    go_loopw [7] (fun i wr => ∃ (k : Nat) (L M : List Pl), k ≤ l.length ∧ i = .int .i64 k ∧ Hid (MR W1 wr f g (3 * k) L M)) (fun i _ => l.length - (intOf i).toNat)
    case atStart => exact ⟨0, [], [], Nat.zero_le _, rfl, HMR⟩
    case round =>
      obtain ⟨k, L, M, hk, rfl, hm⟩ := hrel
      by_cases hlt : k < l.length
      · obtain ⟨ad, rfl, hadb, hat⟩ := HR.out k hlt
        have hat' := hat.below hm.out.bl (by rw [block_of_add]; have := hsz.out; omega)
        obtain ⟨c0, c1, c2, c3, c4⟩ := hat'
        have HOX := Lib.hid (HOK.out k hlt)
        generalize l.getD k o0 = x at *
        have HD := Lib.hid (does_any W1 wr f g (3 * k) L M x HOX.out (by omega) hm.out)
        unfold opV at HD
        clear hat
        go_wp2_with (fail)
        refine HD.out.mono ?_
        rintro e w4 ⟨rfl, hm4⟩
        have HM4 : Hid (MR W1 w4 f g (3 * (k + 1)) (stepL x L) (stepR x M)) := hm4
        clear hm4 c0 c1 c2 c3 c4
        go_wp2
        go_round
        case rel => exact ⟨k + 1, _, _, hlt, by go_num, HM4⟩
        case measure => simp [intOf]; omega
      · have HN : Hid (3 * k + 10 < 1000000) := by unfold Hid; omega
        have hbx := hB.out.below hm.out.bl hsz.out
        have c0 : wr.cell? ⟨w.heap.size, 0, none⟩ = some (.bool o.d) := hbx.cell 0
        have c1 : wr.cell? ⟨w.heap.size, 1, none⟩ = some (.int .u32 o.p.t) := hbx.cell 1
        have c2 : wr.cell? ⟨w.heap.size, 2, none⟩ = some (.int .u64 o.p.b) := hbx.cell 2
        obtain ⟨q, hq⟩ : ∃ q, atOf L o.p.n = q := ⟨_, rfl⟩
        have hg : Calls Try.prog 14 #[.pointer (some ⟨f.g, 0, none⟩), .int .u32 o.p.t, .int .u64 o.p.b] wr
            (fun e w' => e = .returned (.tuple #[.agg #[.int .i64 (q.getD (0, 0)).1, .int .i64 (q.getD (0, 0)).2], .bool q.isSome]) ∧ Hid (MR W1 w' f g (3 * k) L M)) := by
          refine (lget_any wr f _ L o.p.n HO.out.1 hm.out.lm).mono ?_
          rintro e w' ⟨rfl, hb⟩
          rw [hq]
          exact ⟨rfl, hm.out.below hb⟩
        have HG := Lib.hid hg
        have HQ := Lib.hid hq
        have HUN := Lib.hid hm.out.lm.uniq
        clear hg hq hbx
        go_wp2_with (fail)
        refine HG.out.mono ?_
        rintro e w4 ⟨rfl, hm4⟩
        obtain ⟨a, ha⟩ : ∃ a, q.getD (0, 0) = a := ⟨_, rfl⟩
        rw [ha]
        have HA := Lib.hid ha
        clear ha c0 c1 c2 HG
        have hla : La W1 (w4.alloc (.cells #[.int .i64 a.1, .int .i64 a.2] 31)) f g (3 * k) L M w.heap.size o w4.heap.size a :=
          ⟨hm4.out.alloc _, (hB.out.below hm4.out.bl hsz.out).alloc _, Blk.new _ _ _⟩
        have bx0 := hB.out.below hm4.out.bl hsz.out
        have d0 : w4.cell? ⟨w.heap.size, 0, none⟩ = some (.bool o.d) := bx0.cell 0
        have hlt4 : w.heap.size < w4.heap.size := bx0.lt
        have HLA := Lib.hid hla
        clear hla bx0
        obtain ⟨od, op⟩ := o
        have HAO : Hid (AddrOk a) := by
          have h1 := HA.out
          have h2 := HQ.out
          cases q with
          | none => rw [← h1]; unfold Hid AddrOk; simp
          | some x => rw [← h1]; exact (hm.out.lm.atOk h2).2
        clear HMR hm hm4 d0
        go_upto_region 10 with (fail)
        generalize hs5 : w4.heap.size = s at *
        clear hs5
        generalize w4.alloc (.cells #[.int .i64 a.1, .int .i64 a.2] 31) = w5 at *
        cases od with
        | true =>
          have hwas : q.isSome = true → inAt (cut (cut L op.n) op.n) a = none := fun hs => by
            have h1 := HA.out
            have h2 := HQ.out
            cases q with
            | none => cases hs
            | some x =>
              rw [cut_none atOf_cut_same, ← h1]
              exact inAt_cut_same HUN.out h2
          have HWAS := Lib.hid hwas
          clear hwas
          obtain ⟨⟨c0, c1, c2, c3, c4⟩, e0, e1⟩ := HLA.out.cells
          go_wp2_with (fail)
          refine (HLA.out.drop op.n HO.out.1 (by have := HN.out; omega) HQ.out rfl).mono ?_
          rintro e w6 ⟨rfl, hla⟩
          have HL6 := Lib.hid hla
          clear c0 c1 c2 c3 c4 e0 e1 hla
          obtain ⟨⟨c0, c1, c2, c3, c4⟩, e0, e1⟩ := HL6.out.cells
          go_wp2_with (fail)
          refine (HL6.out.drop op.n HO.out.1 (by have := HN.out; omega) atOf_cut_same rfl).mono ?_
          rintro e w7 ⟨rfl, hla⟩
          have HL7 := Lib.hid hla
          clear c0 c1 c2 c3 c4 e0 e1 hla
          obtain ⟨⟨c0, c1, c2, c3, c4⟩, e0, e1⟩ := HL7.out.cells
          go_wp2_with (fail)
          refine (HL7.out.get op.n HO.out.1 atOf_cut_same rfl rfl).mono ?_
          rintro e w8 ⟨rfl, hla⟩
          have HL8 := Lib.hid hla
          clear c0 c1 c2 c3 c4 e0 e1 hla
          obtain ⟨⟨c0, c1, c2, c3, c4⟩, e0, e1⟩ := HL8.out.cells
          have HL9 := Lib.hid (HL8.out.alloc (.cells #[.int .i64 0, .int .i64 0] 31))
          have hslt : s < w8.heap.size := HL8.out.was.lt
          go_wp2_with (fail)
          refine (HL9.out.at_ a HAO.out rfl rfl rfl).mono ?_
          rintro e w10 ⟨rfl, hla, _⟩
          have HL10 := Lib.hid hla
          clear c0 c1 c2 c3 c4 e0 e1 hla hslt
          obtain ⟨is, his⟩ : ∃ is, (inAt (cut (cut L op.n) op.n) a).isSome = is := ⟨_, rfl⟩
          rw [his]
          have hfin : q.isSome = true → is = false := fun hs => by rw [← his, HWAS.out hs]; rfl
          generalize inPl (cut (cut L op.n) op.n) a = pl
          clear his HQ HA HAO HWAS
          cases hqs : q.isSome with
          | true =>
            obtain rfl := hfin hqs
            clear hfin hqs
            go_wp2
            go_ret
            exact ⟨rfl, hOut.out _ (HL10.out.mr.bl.alloc HL10.out.mr.bl.size _)⟩
          | false =>
            clear hfin hqs
            go_wp2
            go_ret
            exact ⟨rfl, hOut.out _ (HL10.out.mr.bl.alloc HL10.out.mr.bl.size _)⟩
        | false =>
          have hwas : q.isSome = true → a ≠ op.a → inAt (op :: free (cut L op.n) op.a) a = none := fun hs hne => by
            have h1 := HA.out
            have h2 := HQ.out
            cases q with
            | none => cases hs
            | some x =>
              rw [inAt_cons, if_neg hne]
              refine inAt_none.2 fun y hy => inAt_none.1 (inAt_cut_same HUN.out h2) y (mem_free.1 hy).1 |> fun h => by rw [← h1]; exact h
          have HWAS := Lib.hid hwas
          clear hwas
          obtain ⟨⟨c0, c1, c2, c3, c4⟩, e0, e1⟩ := HLA.out.cells
          go_wp2_with (fail)
          refine (HLA.out.put op HO.out (by have := HN.out; omega)).mono ?_
          rintro e w6 ⟨rfl, hla⟩
          have HL6 := Lib.hid hla
          clear c0 c1 c2 c3 c4 e0 e1 hla
          obtain ⟨⟨c0, c1, c2, c3, c4⟩, e0, e1⟩ := HL6.out.cells
          go_wp2_with (fail)
          refine (HL6.out.get op.n HO.out.1 (r := some op.a) (by rw [atOf_cons, if_pos rfl]) rfl rfl).mono ?_
          rintro e w7 ⟨rfl, hla⟩
          have HL7 := Lib.hid hla
          clear c0 c1 c2 c3 c4 e0 e1 hla
          obtain ⟨⟨c0, c1, c2, c3, c4⟩, e0, e1⟩ := HL7.out.cells
          have hs7 : w.heap.size < w7.heap.size := HL7.out.box.lt
          go_upto_region 18 with (fail)
          have HB16 : Hid (Blk (w7.alloc (.cells #[.int .i64 op.z, .int .i64 op.k] 31)) w7.heap.size 31 #[.int .i64 op.z, .int .i64 op.k]) := Blk.new _ _ _
          have HL8 := Lib.hid (HL7.out.alloc (.cells #[.int .i64 op.z, .int .i64 op.k] 31))
          change Code.wp _ _ _ _ (w7.alloc (.cells #[.int .i64 op.z, .int .i64 op.k] 31))
          clear c0 c1 c2 c3 c4 e0 e1 hs7
          generalize w7.heap.size = s16 at *
          generalize w7.alloc (.cells #[.int .i64 op.z, .int .i64 op.k] 31) = w8 at *
          obtain ⟨⟨c0, c1, c2, c3, c4⟩, e0, e1⟩ := HL8.out.cells
          go_wp2_with (fail)
          refine (HL8.out.at_ op.a HO.out.2 (r := some op.n) (q := op) (by rw [inAt_cons, if_pos rfl]) (by unfold inPl; rw [inAt_cons, if_pos rfl]; rfl) rfl).mono ?_
          rintro e w9 ⟨rfl, hla, hb⟩
          have HL9 := Lib.hid hla
          have HC16 := Lib.hid (HB16.out.below hb HB16.out.lt)
          clear c0 c1 c2 c3 c4 e0 e1 hla hb
          go_upto_region 19 with (fail)
          have HB18 : Hid (Blk (w9.alloc (.cells #[.int .u32 op.t, .int .u64 op.b, .int .i64 op.z, .int .i64 op.k] 33)) w9.heap.size 33 #[.int .u32 op.t, .int .u64 op.b, .int .i64 op.z, .int .i64 op.k]) := Blk.new _ _ _
          have HD16 := Lib.hid (HC16.out.alloc (.cells #[.int .u32 op.t, .int .u64 op.b, .int .i64 op.z, .int .i64 op.k] 33))
          have HL10 := Lib.hid (HL9.out.alloc (.cells #[.int .u32 op.t, .int .u64 op.b, .int .i64 op.z, .int .i64 op.k] 33))
          change Code.wp _ _ _ _ (w9.alloc (.cells #[.int .u32 op.t, .int .u64 op.b, .int .i64 op.z, .int .i64 op.k] 33))
          generalize w9.heap.size = s18 at *
          generalize w9.alloc (.cells #[.int .u32 op.t, .int .u64 op.b, .int .i64 op.z, .int .i64 op.k] 33) = w10 at *
          obtain ⟨⟨c0, c1, c2, c3, c4⟩, e0, e1⟩ := HL10.out.cells
          go_wp2_with (fail)
          obtain ⟨is, his⟩ : ∃ is, (inAt (op :: free (cut L op.n) op.a) a).isSome = is := ⟨_, rfl⟩
          have HAT := Lib.hid (HL10.out.at_ a HAO.out rfl rfl his)
          have hfin : q.isSome = true → a ≠ op.a → is = false := fun hs hne => by rw [← his, HWAS.out hs hne]; rfl
          clear his
          generalize inPl (op :: free (cut L op.n) op.a) a = pl at *
          refine HAT.out.mono ?_
          rintro e w11 ⟨rfl, hla, hb⟩
          have HL11 := Lib.hid hla
          have b18 := HB18.out.below hb HB18.out.lt
          have b16 := HD16.out.below hb HD16.out.lt
          clear c0 c1 c2 c3 c4 e0 e1 hla hb HAT
          go_upto_region 20 with (fail)
          obtain ⟨⟨c0, c1, c2, c3, c4⟩, e0, e1⟩ := (HL11.out.alloc (.cells #[.int .u32 pl.t, .int .u64 pl.b, .int .i64 pl.z, .int .i64 pl.k] 33)).cells
          have b18' := b18.alloc (.cells #[.int .u32 pl.t, .int .u64 pl.b, .int .i64 pl.z, .int .i64 pl.k] 33)
          have b16' := b16.alloc (.cells #[.int .u32 pl.t, .int .u64 pl.b, .int .i64 pl.z, .int .i64 pl.k] 33)
          have HE := Lib.hid (HL11.out.mr.bl.alloc HL11.out.mr.bl.size (.cells #[.int .u32 pl.t, .int .u64 pl.b, .int .i64 pl.z, .int .i64 pl.k] 33))
          clear b18 b16
          change Code.wp _ _ _ _ (w11.alloc (.cells #[.int .u32 pl.t, .int .u64 pl.b, .int .i64 pl.z, .int .i64 pl.k] 33))
          generalize w11.alloc (.cells #[.int .u32 pl.t, .int .u64 pl.b, .int .i64 pl.z, .int .i64 pl.k] 33) = w12 at *
          have f0 : w12.cell? ⟨s16, 0, none⟩ = some (.int .i64 op.z) := b16'.cell 0
          have f1 : w12.cell? ⟨s16, 1, none⟩ = some (.int .i64 op.k) := b16'.cell 1
          have g0 : w12.cell? ⟨s18, 0, none⟩ = some (.int .u32 op.t) := b18'.cell 0
          have g1 : w12.cell? ⟨s18, 1, none⟩ = some (.int .u64 op.b) := b18'.cell 1
          have g2 : w12.cell? ⟨s18, 2, none⟩ = some (.int .i64 op.z) := b18'.cell 2
          have g3 : w12.cell? ⟨s18, 3, none⟩ = some (.int .i64 op.k) := b18'.cell 3
          clear b16' b18' HL11 HL10 HL9 HL8 HL7 HL6 HLA HB18 HB16 HC16 HD16
          obtain ⟨a1, a2⟩ := a
          simp only at e0 e1
          clear HQ HA HAO HWAS
          cases hqs : q.isSome with
          | false =>
            clear hfin hqs
            go_wp2
            go_ret
            exact ⟨rfl, hOut.out _ HE.out⟩
          | true =>
            have h2 := hfin hqs
            clear hfin hqs
            rcases Classical.em (a1 = op.z) with rfl | hz
            · rcases Classical.em (a2 = op.k) with rfl | hk2
              · clear h2
                go_wp2
                go_ret
                exact ⟨rfl, hOut.out _ HE.out⟩
              · obtain rfl := h2 (by intro e; exact hk2 (congrArg Prod.snd e))
                clear h2
                go_wp2
                go_ret
                exact ⟨rfl, hOut.out _ HE.out⟩
            · obtain rfl := h2 (by intro e; exact hz (congrArg Prod.fst e))
              clear h2
              go_wp2
              go_ret
              exact ⟨rfl, hOut.out _ HE.out⟩
end Go.Proofs.Ytcbbkemfgnbcpaa
