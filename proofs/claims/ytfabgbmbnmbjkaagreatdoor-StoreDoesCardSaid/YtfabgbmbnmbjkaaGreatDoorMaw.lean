/- Joined texts: St13 St14 Sl1. -/
import Derived.Test.YtfabgbmbnmbjkaaGreatDoorMav
import Derived.Test.YtfabgbmbnmbjkaaGreatDoorMap
/- Package store: a new store. -/
namespace Go.Proofs.YtfabgbmbnmbjkaaGreatDoor
open Go.RowKit
set_option maxRecDepth 20000

theorem newL_length (z : Int) (h : 2 ≤ z) : (newL z).length = z.toNat := by simp [newL]; omega
theorem newL_frees (z : Int) (h : 2 ≤ z) : frees (newL z) = z - 2 := by
  unfold frees newL
  rw [List.countP_append, List.countP_replicate]
  simp
  omega
theorem news_ok {w : World} {g b : Nat} {z rs : Int} (h : SegIs w g b (newL z) rs (z - 2)) (hz : 6 ≤ z ∧ z ≤ 256) : SegOk w g b (newL z) rs := by
  rw [← newL_frees z (by omega)] at h
  exact ⟨h, by rw [newL_length z (by omega)]; omega⟩
def newM (sh : Sh) (P : List Part) : StM := ⟨P, newL sh.z, [], 0, fun _ => none, -1, 0⟩
set_option maxHeartbeats 2000000 in
theorem on_any (X : Nat → Prop) (w : World) (d : Nat) (sh : Sh) (P : List Part) (h : DevIs X w d sh P) :
    Calls Tryz.prog 43 #[.pointer (some ⟨d, 0, none⟩), .int .u64 0, .slice none 0 0, .slice none 0 0, .int .i64 0] w
      (fun e w' => ∃ F : StF, e = .returned (.pointer (some ⟨F.s, 0, none⟩)) ∧ F.d = d ∧ (∀ i, F.own i → w.heap.size ≤ i) ∧ StoreIs X w' F sh 0 (newM sh P) ∧ Below w.heap.size w w') := by
  have hmm := @run_makeMap Tryz.prog
  have H := Lib.hid h
  have hok := h.ok
  have hf := hok.facts
  have HOK := Lib.hid hok
  have HSH := Lib.hid (shape_any X w d sh P h)
  unfold shV at HSH
  have HNW := Lib.hid (fun u => new_any sh.z sh.zb sh.bl sh.rs u (by omega) (by omega))
  clear h hok hf
  go_enter Tryz.func43, Tryz.ntmps43
  go_wp2_with (fail)
  refine HSH.out.mono ?_
  rintro e w1 ⟨rfl, hb1⟩
  have HB1 := Lib.hid hb1
  clear hb1
  go_wp2_with (fail)
  refine (HNW.out _).mono ?_
  rintro e w2 ⟨hy, _, hb2⟩
  obtain ⟨g, gb, rfl, hg, hgb, hseg⟩ := hy HOK.out.is
  have H2 := Lib.hid (And.intro hg (And.intro hgb (And.intro hseg (HB1.out.trans (hb2.mono HB1.out.size)))))
  clear hg hgb hseg hb2 hy
  go_wp2_with (fail)
  refine (lnew_any _).mono ?_
  rintro e w3 ⟨f, rfl, hf, hlm, hb3⟩
  have H3 := Lib.hid (And.intro hf (And.intro hlm hb3))
  clear hf hlm hb3
  go_wp2_with (fail)
  have hfin : Hid (∃ F : StF, F.s = w3.heap.size + 1 ∧ F.d = d ∧ (∀ i, F.own i → w.heap.size ≤ i) ∧ StoreIs X ((w3.alloc (.map #[] 0)).alloc (.cells #[.pointer (some ⟨d, 0, none⟩), .pointer (some ⟨g, 0, none⟩), .pointer (some ⟨f.g, 0, none⟩), .int .u64 0, .map (some w3.heap.size), .int .i64 (-1), .int .i64 0] 92)) F sh 0 (newM sh P) ∧
      Below w.heap.size w ((w3.alloc (.map #[] 0)).alloc (.cells #[.pointer (some ⟨d, 0, none⟩), .pointer (some ⟨g, 0, none⟩), .pointer (some ⟨f.g, 0, none⟩), .int .u64 0, .map (some w3.heap.size), .int .i64 (-1), .int .i64 0] 92))) := by
    obtain ⟨hg, hgb, hseg, hb2⟩ := H2.out
    obtain ⟨hf, hlm, hb3⟩ := H3.out
    have hb1 := HB1.out
    have hz := HOK.out.facts
    have hsk := news_ok hseg (by omega)
    have hg2 := hseg.top.lt
    have hgb2 := hseg.row.lt
    have hne := hseg.ne_
    have h12 := hb1.size
    have h23 := hb2.size
    have h34 := hb3.size
    have hfl : ∀ i, f.S i → i < w3.heap.size := fun i hi => hlm.lt hi
    have hbm : Below w3.heap.size w3 (w3.alloc (.map #[] 0)) := (Below.refl _ _).alloc (Nat.le_refl _) _
    have hbs : Below (w3.heap.size + 1) (w3.alloc (.map #[] 0)) ((w3.alloc (.map #[] 0)).alloc (.cells #[.pointer (some ⟨d, 0, none⟩), .pointer (some ⟨g, 0, none⟩), .pointer (some ⟨f.g, 0, none⟩), .int .u64 0, .map (some w3.heap.size), .int .i64 (-1), .int .i64 0] 92)) := (Below.refl _ _).alloc (by simp) _
    have hall : Below w.heap.size w ((w3.alloc (.map #[] 0)).alloc (.cells #[.pointer (some ⟨d, 0, none⟩), .pointer (some ⟨g, 0, none⟩), .pointer (some ⟨f.g, 0, none⟩), .int .u64 0, .map (some w3.heap.size), .int .i64 (-1), .int .i64 0] 92)) :=
      ((hb2.trans (hb3.mono h23)).trans (hbm.mono (by omega))).trans (hbs.mono (by omega))
    have hmap : MapF intC (Value.int .u64) ((w3.alloc (.map #[] 0)).alloc (.cells #[.pointer (some ⟨d, 0, none⟩), .pointer (some ⟨g, 0, none⟩), .pointer (some ⟨f.g, 0, none⟩), .int .u64 0, .map (some w3.heap.size), .int .i64 (-1), .int .i64 0] 92)) w3.heap.size 0 (fun _ => none) := (MapF.made w3 intC (Value.int .u64)).alloc _
    have hblk := Blk.new (w3.alloc (.map #[] 0)) 92 #[.pointer (some ⟨d, 0, none⟩), .pointer (some ⟨g, 0, none⟩), .pointer (some ⟨f.g, 0, none⟩), .int .u64 0, .map (some w3.heap.size), .int .i64 (-1), .int .i64 0]
    have hbms : Below w3.heap.size w3 ((w3.alloc (.map #[] 0)).alloc (.cells #[.pointer (some ⟨d, 0, none⟩), .pointer (some ⟨g, 0, none⟩), .pointer (some ⟨f.g, 0, none⟩), .int .u64 0, .map (some w3.heap.size), .int .i64 (-1), .int .i64 0] 92)) := hbm.trans (hbs.mono (by omega))
    have hown : ∀ i, (StF.mk (w3.heap.size + 1) d g gb f w3.heap.size).own i → w.heap.size ≤ i ∧ i < w3.heap.size + 2 := by
      rintro i (h | h | h | hi | h)
      · have : i = w3.heap.size + 1 := h
        omega
      · have : i = g := h
        omega
      · have : i = gb := h
        omega
      · have := hf i hi; have := hfl i hi; omega
      · have : i = w3.heap.size := h
        omega
    refine ⟨⟨w3.heap.size + 1, d, g, gb, f, w3.heap.size⟩, rfl, rfl, fun i hi => (hown i hi).1, ?_, hall⟩
    simp only [World.size_alloc] at hblk
    refine ⟨hblk, H.out.move (fun b hlt _ => hall.block b hlt) (fun b hx => ?_), ⟨(hsk.1.below (hb3.trans (hbms.mono h34))), hsk.2⟩, hlm.below hbms, hmap, ⟨?_, ?_, ?_, ?_, ?_, ?_⟩, fun i hi hx => ?_, ⟨Int.le_refl _, by show (0 : Int) ≤ _; omega⟩, by omega, ⟨Int.le_refl _, by show (-1 : Int) < _; omega⟩⟩
    · rcases hx with hx | hx
      · have := H.out.cl b hx
        exact ⟨Nat.lt_of_lt_of_le this hall.size, .inl hx⟩
      · have := hown b hx
        refine ⟨?_, .inr this.1⟩
        simp
        omega
    · show w3.heap.size + 1 ≠ g; omega
    · show w3.heap.size + 1 ≠ gb; omega
    · intro i hi
      have h1 := hf i hi
      have h2 := hfl i hi
      exact ⟨by show i ≠ w3.heap.size + 1; omega, by show i ≠ g; omega, by show i ≠ gb; omega, by show i ≠ w3.heap.size; omega⟩
    · show w3.heap.size ≠ w3.heap.size + 1; omega
    · show w3.heap.size ≠ g; omega
    · show w3.heap.size ≠ gb; omega
    · have := (hown i hi).1
      have := H.out.cl i hx
      omega
  generalize (w3.alloc (.map #[] 0)).alloc (.cells #[.pointer (some ⟨d, 0, none⟩), .pointer (some ⟨g, 0, none⟩), .pointer (some ⟨f.g, 0, none⟩), .int .u64 0, .map (some w3.heap.size), .int .i64 (-1), .int .i64 0] 92) = w4 at *
  clear H HB1 H2 H3
  go_loopw [28] (fun i wr => i = .int .i64 0 ∧ wr = w4) (fun _ _ => 0)
  case atStart => exact ⟨rfl, rfl⟩
  case round =>
    obtain ⟨rfl, rfl⟩ := hrel
    go_wp2_with (fail)
    go_loopw [41] (fun i wr2 => i = .int .i64 0 ∧ wr2 = wr) (fun _ _ => 0)
    case atStart => exact ⟨rfl, rfl⟩
    case round =>
      obtain ⟨rfl, rfl⟩ := hrel
      go_wp2
      go_ret
      obtain ⟨F, hs, hd, ho, hst, hb⟩ := hfin.out
      exact ⟨F, by rw [hs]; rfl, hd, ho, hst, hb⟩
end Go.Proofs.YtfabgbmbnmbjkaaGreatDoor

/- Package store: New. -/
namespace Go.Proofs.YtfabgbmbnmbjkaaGreatDoor
open Go.RowKit
set_option maxRecDepth 20000

def P0 (sh : Sh) : List Part := saveP (List.replicate sh.z pt0) 0 (doneB (headC 0 1 0 0) sh.bl)
theorem flushP_bs (P : List Part) (i : Nat) : ((flushP P).getD i pt0).bs = (P.getD i pt0).bs := by
  unfold flushP
  simp only [List.getD_eq_getElem?_getD, List.getElem?_map]
  cases P[i]? <;> rfl
theorem new_good (sh : Sh) (hok : sh.ok) : Good sh (newM sh (P0 sh)) := by
  have hf := hok.facts
  refine ⟨by show (newL sh.z).length = sh.z; rw [newL_length _ (by omega)]; simp, by simp [newM, P0, saveP, flushP_length, appP_length], fun h => ?_, fun z hz => ?_, List.Pairwise.nil, fun p hp => by cases hp⟩
  · have : (0 : Int) ≤ -1 := h
    omega
  · show ((P0 sh).getD z pt0).bs = []
    have hz0 : 0 ≠ z := by
      rintro rfl
      have h1 : stateAt (newL sh.z) 0 = 1 := hz
      unfold stateAt at h1
      split at h1
      · simp [newL] at h1
      · omega
    unfold P0 saveP
    rw [flushP_bs, appP_other _ _ _ _ hz0, getD_set_other _ _ _ _ _ hz0]
    simp only [List.getD_eq_getElem?_getD, List.getElem?_replicate]
    split <;> rfl
/-- What New answers. -/
def NewS (z zb bl rs : Int) (w : World) (e : Ending) (w' : World) : Prop :=
  (rightB z zb bl rs = true → ∃ (F : StF) (sh : Sh), z = sh.z ∧ zb = sh.zb ∧ bl = sh.bl ∧ rs = sh.rs ∧ e = .returned (.pointer (some ⟨F.s, 0, none⟩)) ∧ StoreIs (fun b => b < w.heap.size) w' F sh 0 (newM sh (P0 sh)) ∧ (∀ i, F.own i → w.heap.size ≤ i) ∧ Good sh (newM sh (P0 sh))) ∧ (rightB z zb bl rs = false → e = .returned (.pointer none)) ∧ Below w.heap.size w w'

theorem snew_any (z zb bl rs : Int) (w : World) (hz : -9223372036854775808 ≤ z ∧ z ≤ 9223372036854775807) (hb : -9223372036854775808 ≤ bl ∧ bl ≤ 9223372036854775807) :
    Calls Tryz.prog 12 #[.agg #[.int .i64 z, .int .i64 zb, .int .i64 bl, .int .i64 rs]] w (NewS z zb bl rs w) := by
  have HZ := Lib.hid (fun u => znew_any z zb bl rs u hz hb)
  clear hz hb
  go_enter Tryz.func12, Tryz.ntmps12
  go_wp2_with (fail)
  refine (HZ.out _).mono ?_
  rintro e w2 ⟨hy, hn, hb2⟩
  have h1s : (w.alloc (.cells #[.int .i64 z, .int .i64 zb, .int .i64 bl, .int .i64 rs] 23)).heap.size = w.heap.size + 1 := by simp
  have hB : Below w.heap.size w w2 := ((Below.refl w.heap.size w).alloc (Nat.le_refl _) _).trans (hb2.mono (by omega))
  have HB := Lib.hid hB
  cases hr : rightB z zb bl rs with
  | false =>
    obtain rfl := hn hr
    have HR := Lib.hid hr
    clear hy hn hr hb2 h1s hB
    go_wp2
    go_ret
    exact ⟨fun h => (by rw [HR.out] at h; cases h), fun _ => rfl, HB.out⟩
  | true =>
    obtain ⟨d, sh, e1, e2, e3, e4, rfl, hd, hdev⟩ := hy hr
    have HR := Lib.hid (And.intro hr (And.intro e1 (And.intro e2 (And.intro e3 e4))))
    have HD : Hid (DevIs (fun b => b < w.heap.size) w2 d sh (List.replicate sh.z pt0)) := hdev.less (fun b hb => by
      show b < (w.alloc _).heap.size
      have : b < w.heap.size := hb
      rw [h1s]; omega)
    clear hy hn hr hb2 h1s hB hdev e1 e2 e3 e4 hd
    go_wp2_with (fail)
    refine (csave_nil _ w2 d sh _ 0 (by omega) 0 (by omega) HD.out).mono ?_
    rintro e w3 ⟨rfl, hd3, hk3⟩
    have HD3 : Hid (DevIs (fun b => b < w.heap.size) w3 d sh (P0 sh)) := hd3
    have HB3 : Hid (Below w.heap.size w w3) := Kp.below HB.out hk3 HB.out.size (fun b hb h => h hb)
    clear hd3 hk3
    go_wp2_with (fail)
    refine (on_any _ w3 d sh _ HD3.out).mono ?_
    rintro e w4 ⟨F, rfl, hFd, ho, hst, hb4⟩
    have H4 : Hid (NewS z zb bl rs w (.returned (.pointer (some ⟨F.s, 0, none⟩))) w4) := ⟨fun _ => ⟨F, sh, HR.out.2.1, HR.out.2.2.1, HR.out.2.2.2.1, HR.out.2.2.2.2, rfl, hst, fun i hi => Nat.le_trans HB3.out.size (ho i hi), new_good sh HD3.out.ok⟩, fun h => (by rw [HR.out.1] at h; cases h), HB3.out.trans (hb4.mono HB3.out.size)⟩
    clear hFd ho hst hb4
    go_wp2
    go_ret
    exact H4.out
end Go.Proofs.YtfabgbmbnmbjkaaGreatDoor

/- The laws of Store: small functions. -/
namespace Go.Proofs.YtfabgbmbnmbjkaaGreatDoor
open Go.RowKit
set_option maxRecDepth 20000

theorem truth_any (w : World) (b : Bool) : Calls Tryz.prog 37 #[.bool b] w (fun e w' => e = .returned (.int .i64 (if b then 1 else 0)) ∧ w = w') := by
  cases b
  all_goals
    go_enter Tryz.func37, Tryz.ntmps37
    go_wp2
    go_ret
    exact ⟨rfl, rfl⟩
/-- A shape that is looked at. -/
def smallB (z zb bl : Int) : Bool := decide (z ≤ 12) && (decide (zb ≤ 16) && decide (bl ≤ 128))
theorem small_any (z zb bl rs : Int) (w : World) : Calls Tryz.prog 78 #[.agg #[.int .i64 z, .int .i64 zb, .int .i64 bl, .int .i64 rs]] w (Makes (.bool (smallB z zb bl)) w) := by
  by_cases h1 : z ≤ 12
  · by_cases h2 : zb ≤ 16
    · by_cases h3 : bl ≤ 128
      all_goals
        have e : smallB z zb bl = _ := rfl
        unfold smallB at e ⊢
        simp only [h1, h2, h3, decide_true, decide_false, Bool.and_true, Bool.and_false]
        clear e
        go_enter Tryz.func78, Tryz.ntmps78
        go_wp2
        go_ret
        exact ⟨rfl, (Below.refl _ _).alloc (Nat.le_refl _) _⟩
    · unfold smallB
      simp only [h1, h2, decide_true, decide_false, Bool.and_false, Bool.false_and]
      go_enter Tryz.func78, Tryz.ntmps78
      go_wp2
      go_ret
      exact ⟨rfl, (Below.refl _ _).alloc (Nat.le_refl _) _⟩
  · unfold smallB
    simp only [h1, decide_false, Bool.false_and]
    go_enter Tryz.func78, Tryz.ntmps78
    go_wp2
    go_ret
    exact ⟨rfl, (Below.refl _ _).alloc (Nat.le_refl _) _⟩
end Go.Proofs.YtfabgbmbnmbjkaaGreatDoor

