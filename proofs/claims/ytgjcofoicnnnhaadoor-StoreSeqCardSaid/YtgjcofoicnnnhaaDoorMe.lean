/- Joined texts: St13 St14 Sl1 Sl2 Sl3 Sl4 So1 Sl5 Sl6 Sl7 So2 Open Sl8 Sl9 Sl10 Sl11. -/
import Derived.Test.YtgjcofoicnnnhaaDoorMd
import Derived.Test.YtgjcofoicnnnhaaDoorMb
import Derived.Laws.BytesArg
import Derived.Test.YtgjcofoicnnnhaaDoorMa
import Derived.ChangeArms
import Derived.ChangeSlices
import Derived.Deep.Slices
import Derived.WideShapes
import Derived.Lib.SmallJoins
import Derived.Deep.SlicePairs
/- Package store: a new store. -/
namespace Go.Proofs.YtgjcofoicnnnhaaDoor
open Go.RowKit
set_option maxRecDepth 20000

theorem newL_length (z : Int) (h : 2 ≤ z) : (newL z).length = z.toNat := by simp [newL]; omega
theorem newL_frees (z : Int) (h : 2 ≤ z) : frees (newL z) = z - 2 := by
  unfold frees newL
  rw [List.countP_append, List.countP_replicate]
  simp
  omega
theorem news_ok {w : World} {g b : Nat} {z rs : Int} (h : SegIs w g b (newL z) rs (z - 2)) (hz : 6 ≤ z ∧ z ≤ 256) : SegOk w g b (newL z) rs := by
  rw [← newL_frees z (by omega)] at h
  exact ⟨h, by rw [newL_length z (by omega)]; omega⟩
def newM (sh : Sh) (P : List Part) : StM := ⟨P, newL sh.z, [], 0, fun _ => none, -1, 0⟩
set_option maxHeartbeats 2000000 in
theorem on_any (X : Nat → Prop) (w : World) (d : Nat) (sh : Sh) (P : List Part) (h : DevIs X w d sh P) :
    Calls Tryd.prog 27 #[.pointer (some ⟨d, 0, none⟩), .int .u64 0, .slice none 0 0, .slice none 0 0, .int .i64 0] w
      (fun e w' => ∃ F : StF, e = .returned (.pointer (some ⟨F.s, 0, none⟩)) ∧ F.d = d ∧ (∀ i, F.own i → w.heap.size ≤ i) ∧ StoreIs X w' F sh 0 (newM sh P) ∧ Below w.heap.size w w') := by
  have hmm := @run_makeMap Tryd.prog
  have H := Lib.hid h
  have hok := h.ok
  have hf := hok.facts
  have HOK := Lib.hid hok
  have HSH := Lib.hid (shape_any X w d sh P h)
  unfold shV at HSH
  have HNW := Lib.hid (fun u => new_any sh.z sh.zb sh.bl sh.rs u (by omega) (by omega))
  clear h hok hf
  go_enter Tryd.func27, Tryd.ntmps27
  go_wp2_with (fail)
  refine HSH.out.mono ?_
  rintro e w1 ⟨rfl, hb1⟩
  have HB1 := Lib.hid hb1
  clear hb1
  go_wp2_with (fail)
  refine (HNW.out _).mono ?_
  rintro e w2 ⟨hy, _, hb2⟩
  obtain ⟨g, gb, rfl, hg, hgb, hseg⟩ := hy HOK.out.is
  have H2 := Lib.hid (And.intro hg (And.intro hgb (And.intro hseg (HB1.out.trans (hb2.mono HB1.out.size)))))
  clear hg hgb hseg hb2 hy
  go_wp2_with (fail)
  refine (lnew_any _).mono ?_
  rintro e w3 ⟨f, rfl, hf, hlm, hb3⟩
  have H3 := Lib.hid (And.intro hf (And.intro hlm hb3))
  clear hf hlm hb3
  go_wp2_with (fail)
  have hfin : Hid (∃ F : StF, F.s = w3.heap.size + 1 ∧ F.d = d ∧ (∀ i, F.own i → w.heap.size ≤ i) ∧ StoreIs X ((w3.alloc (.map #[] 0)).alloc (.cells #[.pointer (some ⟨d, 0, none⟩), .pointer (some ⟨g, 0, none⟩), .pointer (some ⟨f.g, 0, none⟩), .int .u64 0, .map (some w3.heap.size), .int .i64 (-1), .int .i64 0] 73)) F sh 0 (newM sh P) ∧
      Below w.heap.size w ((w3.alloc (.map #[] 0)).alloc (.cells #[.pointer (some ⟨d, 0, none⟩), .pointer (some ⟨g, 0, none⟩), .pointer (some ⟨f.g, 0, none⟩), .int .u64 0, .map (some w3.heap.size), .int .i64 (-1), .int .i64 0] 73))) := by
    obtain ⟨hg, hgb, hseg, hb2⟩ := H2.out
    obtain ⟨hf, hlm, hb3⟩ := H3.out
    have hb1 := HB1.out
    have hz := HOK.out.facts
    have hsk := news_ok hseg (by omega)
    have hg2 := hseg.top.lt
    have hgb2 := hseg.row.lt
    have hne := hseg.ne_
    have h12 := hb1.size
    have h23 := hb2.size
    have h34 := hb3.size
    have hfl : ∀ i, f.S i → i < w3.heap.size := fun i hi => hlm.lt hi
    have hbm : Below w3.heap.size w3 (w3.alloc (.map #[] 0)) := (Below.refl _ _).alloc (Nat.le_refl _) _
    have hbs : Below (w3.heap.size + 1) (w3.alloc (.map #[] 0)) ((w3.alloc (.map #[] 0)).alloc (.cells #[.pointer (some ⟨d, 0, none⟩), .pointer (some ⟨g, 0, none⟩), .pointer (some ⟨f.g, 0, none⟩), .int .u64 0, .map (some w3.heap.size), .int .i64 (-1), .int .i64 0] 73)) := (Below.refl _ _).alloc (by simp) _
    have hall : Below w.heap.size w ((w3.alloc (.map #[] 0)).alloc (.cells #[.pointer (some ⟨d, 0, none⟩), .pointer (some ⟨g, 0, none⟩), .pointer (some ⟨f.g, 0, none⟩), .int .u64 0, .map (some w3.heap.size), .int .i64 (-1), .int .i64 0] 73)) :=
      ((hb2.trans (hb3.mono h23)).trans (hbm.mono (by omega))).trans (hbs.mono (by omega))
    have hmap : MapF intC (Value.int .u64) ((w3.alloc (.map #[] 0)).alloc (.cells #[.pointer (some ⟨d, 0, none⟩), .pointer (some ⟨g, 0, none⟩), .pointer (some ⟨f.g, 0, none⟩), .int .u64 0, .map (some w3.heap.size), .int .i64 (-1), .int .i64 0] 73)) w3.heap.size 0 (fun _ => none) := (MapF.made w3 intC (Value.int .u64)).alloc _
    have hblk := Blk.new (w3.alloc (.map #[] 0)) 73 #[.pointer (some ⟨d, 0, none⟩), .pointer (some ⟨g, 0, none⟩), .pointer (some ⟨f.g, 0, none⟩), .int .u64 0, .map (some w3.heap.size), .int .i64 (-1), .int .i64 0]
    have hbms : Below w3.heap.size w3 ((w3.alloc (.map #[] 0)).alloc (.cells #[.pointer (some ⟨d, 0, none⟩), .pointer (some ⟨g, 0, none⟩), .pointer (some ⟨f.g, 0, none⟩), .int .u64 0, .map (some w3.heap.size), .int .i64 (-1), .int .i64 0] 73)) := hbm.trans (hbs.mono (by omega))
    have hown : ∀ i, (StF.mk (w3.heap.size + 1) d g gb f w3.heap.size).own i → w.heap.size ≤ i ∧ i < w3.heap.size + 2 := by
      rintro i (h | h | h | hi | h)
      · have : i = w3.heap.size + 1 := h
        omega
      · have : i = g := h
        omega
      · have : i = gb := h
        omega
      · have := hf i hi; have := hfl i hi; omega
      · have : i = w3.heap.size := h
        omega
    refine ⟨⟨w3.heap.size + 1, d, g, gb, f, w3.heap.size⟩, rfl, rfl, fun i hi => (hown i hi).1, ?_, hall⟩
    simp only [World.size_alloc] at hblk
    refine ⟨hblk, H.out.move (fun b hlt _ => hall.block b hlt) (fun b hx => ?_), ⟨(hsk.1.below (hb3.trans (hbms.mono h34))), hsk.2⟩, hlm.below hbms, hmap, ⟨?_, ?_, ?_, ?_, ?_, ?_⟩, fun i hi hx => ?_, ⟨Int.le_refl _, by show (0 : Int) ≤ _; omega⟩, by omega, ⟨Int.le_refl _, by show (-1 : Int) < _; omega⟩⟩
    · rcases hx with hx | hx
      · have := H.out.cl b hx
        exact ⟨Nat.lt_of_lt_of_le this hall.size, .inl hx⟩
      · have := hown b hx
        refine ⟨?_, .inr this.1⟩
        simp
        omega
    · show w3.heap.size + 1 ≠ g; omega
    · show w3.heap.size + 1 ≠ gb; omega
    · intro i hi
      have h1 := hf i hi
      have h2 := hfl i hi
      exact ⟨by show i ≠ w3.heap.size + 1; omega, by show i ≠ g; omega, by show i ≠ gb; omega, by show i ≠ w3.heap.size; omega⟩
    · show w3.heap.size ≠ w3.heap.size + 1; omega
    · show w3.heap.size ≠ g; omega
    · show w3.heap.size ≠ gb; omega
    · have := (hown i hi).1
      have := H.out.cl i hx
      omega
  generalize (w3.alloc (.map #[] 0)).alloc (.cells #[.pointer (some ⟨d, 0, none⟩), .pointer (some ⟨g, 0, none⟩), .pointer (some ⟨f.g, 0, none⟩), .int .u64 0, .map (some w3.heap.size), .int .i64 (-1), .int .i64 0] 73) = w4 at *
  clear H HB1 H2 H3
  go_loopw [28] (fun i wr => i = .int .i64 0 ∧ wr = w4) (fun _ _ => 0)
  case atStart => exact ⟨rfl, rfl⟩
  case round =>
    obtain ⟨rfl, rfl⟩ := hrel
    go_wp2_with (fail)
    go_loopw [41] (fun i wr2 => i = .int .i64 0 ∧ wr2 = wr) (fun _ _ => 0)
    case atStart => exact ⟨rfl, rfl⟩
    case round =>
      obtain ⟨rfl, rfl⟩ := hrel
      go_wp2
      go_ret
      obtain ⟨F, hs, hd, ho, hst, hb⟩ := hfin.out
      exact ⟨F, by rw [hs]; rfl, hd, ho, hst, hb⟩
end Go.Proofs.YtgjcofoicnnnhaaDoor

/- Package store: New. -/
namespace Go.Proofs.YtgjcofoicnnnhaaDoor
open Go.RowKit
set_option maxRecDepth 20000

def P0 (sh : Sh) : List Part := saveP (List.replicate sh.z pt0) 0 (doneB (headC 0 1 0 0) sh.bl)
theorem flushP_bs (P : List Part) (i : Nat) : ((flushP P).getD i pt0).bs = (P.getD i pt0).bs := by
  unfold flushP
  simp only [List.getD_eq_getElem?_getD, List.getElem?_map]
  cases P[i]? <;> rfl
theorem new_good (sh : Sh) (hok : sh.ok) : Good sh (newM sh (P0 sh)) := by
  have hf := hok.facts
  refine ⟨by show (newL sh.z).length = sh.z; rw [newL_length _ (by omega)]; simp, by simp [newM, P0, saveP, flushP_length, appP_length], fun h => ?_, fun z hz => ?_, List.Pairwise.nil, fun p hp => by cases hp⟩
  · have : (0 : Int) ≤ -1 := h
    omega
  · show ((P0 sh).getD z pt0).bs = []
    have hz0 : 0 ≠ z := by
      rintro rfl
      have h1 : stateAt (newL sh.z) 0 = 1 := hz
      unfold stateAt at h1
      split at h1
      · simp [newL] at h1
      · omega
    unfold P0 saveP
    rw [flushP_bs, appP_other _ _ _ _ hz0, getD_set_other _ _ _ _ _ hz0]
    simp only [List.getD_eq_getElem?_getD, List.getElem?_replicate]
    split <;> rfl
/-- What New answers. -/
def NewS (z zb bl rs : Int) (w : World) (e : Ending) (w' : World) : Prop :=
  (rightB z zb bl rs = true → ∃ (F : StF) (sh : Sh), z = sh.z ∧ zb = sh.zb ∧ bl = sh.bl ∧ rs = sh.rs ∧ e = .returned (.pointer (some ⟨F.s, 0, none⟩)) ∧ StoreIs (fun b => b < w.heap.size) w' F sh 0 (newM sh (P0 sh)) ∧ (∀ i, F.own i → w.heap.size ≤ i) ∧ Good sh (newM sh (P0 sh))) ∧ (rightB z zb bl rs = false → e = .returned (.pointer none)) ∧ Below w.heap.size w w'

theorem snew_any (z zb bl rs : Int) (w : World) (hz : -9223372036854775808 ≤ z ∧ z ≤ 9223372036854775807) (hb : -9223372036854775808 ≤ bl ∧ bl ≤ 9223372036854775807) :
    Calls Tryd.prog 9 #[.agg #[.int .i64 z, .int .i64 zb, .int .i64 bl, .int .i64 rs]] w (NewS z zb bl rs w) := by
  have HZ := Lib.hid (fun u => znew_any z zb bl rs u hz hb)
  clear hz hb
  go_enter Tryd.func9, Tryd.ntmps9
  go_wp2_with (fail)
  refine (HZ.out _).mono ?_
  rintro e w2 ⟨hy, hn, hb2⟩
  have h1s : (w.alloc (.cells #[.int .i64 z, .int .i64 zb, .int .i64 bl, .int .i64 rs] 23)).heap.size = w.heap.size + 1 := by simp
  have hB : Below w.heap.size w w2 := ((Below.refl w.heap.size w).alloc (Nat.le_refl _) _).trans (hb2.mono (by omega))
  have HB := Lib.hid hB
  cases hr : rightB z zb bl rs with
  | false =>
    obtain rfl := hn hr
    have HR := Lib.hid hr
    clear hy hn hr hb2 h1s hB
    go_wp2
    go_ret
    exact ⟨fun h => (by rw [HR.out] at h; cases h), fun _ => rfl, HB.out⟩
  | true =>
    obtain ⟨d, sh, e1, e2, e3, e4, rfl, hd, hdev⟩ := hy hr
    have HR := Lib.hid (And.intro hr (And.intro e1 (And.intro e2 (And.intro e3 e4))))
    have HD : Hid (DevIs (fun b => b < w.heap.size) w2 d sh (List.replicate sh.z pt0)) := hdev.less (fun b hb => by
      show b < (w.alloc _).heap.size
      have : b < w.heap.size := hb
      rw [h1s]; omega)
    clear hy hn hr hb2 h1s hB hdev e1 e2 e3 e4 hd
    go_wp2_with (fail)
    refine (csave_nil _ w2 d sh _ 0 (by omega) 0 (by omega) HD.out).mono ?_
    rintro e w3 ⟨rfl, hd3, hk3⟩
    have HD3 : Hid (DevIs (fun b => b < w.heap.size) w3 d sh (P0 sh)) := hd3
    have HB3 : Hid (Below w.heap.size w w3) := Kp.below HB.out hk3 HB.out.size (fun b hb h => h hb)
    clear hd3 hk3
    go_wp2_with (fail)
    refine (on_any _ w3 d sh _ HD3.out).mono ?_
    rintro e w4 ⟨F, rfl, hFd, ho, hst, hb4⟩
    have H4 : Hid (NewS z zb bl rs w (.returned (.pointer (some ⟨F.s, 0, none⟩))) w4) := ⟨fun _ => ⟨F, sh, HR.out.2.1, HR.out.2.2.1, HR.out.2.2.2.1, HR.out.2.2.2.2, rfl, hst, fun i hi => Nat.le_trans HB3.out.size (ho i hi), new_good sh HD3.out.ok⟩, fun h => (by rw [HR.out.1] at h; cases h), HB3.out.trans (hb4.mono HB3.out.size)⟩
    clear hFd ho hst hb4
    go_wp2
    go_ret
    exact H4.out
end Go.Proofs.YtgjcofoicnnnhaaDoor

/- The laws of Store: small functions. -/
namespace Go.Proofs.YtgjcofoicnnnhaaDoor
open Go.RowKit
set_option maxRecDepth 20000

theorem truth_any (w : World) (b : Bool) : Calls Tryd.prog 21 #[.bool b] w (fun e w' => e = .returned (.int .i64 (if b then 1 else 0)) ∧ w = w') := by
  cases b
  all_goals
    go_enter Tryd.func21, Tryd.ntmps21
    go_wp2
    go_ret
    exact ⟨rfl, rfl⟩
/-- A shape that is looked at. -/
def smallB (z zb bl : Int) : Bool := decide (z ≤ 12) && (decide (zb ≤ 16) && decide (bl ≤ 128))
theorem small_any (z zb bl rs : Int) (w : World) : Calls Tryd.prog 37 #[.agg #[.int .i64 z, .int .i64 zb, .int .i64 bl, .int .i64 rs]] w (Makes (.bool (smallB z zb bl)) w) := by
  by_cases h1 : z ≤ 12
  · by_cases h2 : zb ≤ 16
    · by_cases h3 : bl ≤ 128
      all_goals
        have e : smallB z zb bl = _ := rfl
        unfold smallB at e ⊢
        simp only [h1, h2, h3, decide_true, decide_false, Bool.and_true, Bool.and_false]
        clear e
        go_enter Tryd.func37, Tryd.ntmps37
        go_wp2
        go_ret
        exact ⟨rfl, (Below.refl _ _).alloc (Nat.le_refl _) _⟩
    · unfold smallB
      simp only [h1, h2, decide_true, decide_false, Bool.and_false, Bool.false_and]
      go_enter Tryd.func37, Tryd.ntmps37
      go_wp2
      go_ret
      exact ⟨rfl, (Below.refl _ _).alloc (Nat.le_refl _) _⟩
  · unfold smallB
    simp only [h1, decide_false, Bool.false_and]
    go_enter Tryd.func37, Tryd.ntmps37
    go_wp2
    go_ret
    exact ⟨rfl, (Below.refl _ _).alloc (Nat.le_refl _) _⟩
end Go.Proofs.YtgjcofoicnnnhaaDoor

/- The laws of Store: bytes alike. -/
namespace Go.Proofs.YtgjcofoicnnnhaaDoor
open Go.RowKit
set_option maxRecDepth 20000

theorem strOf_inj {xs ys : List Int} (hx : ∀ x ∈ xs, ByteOk x) (hy : ∀ x ∈ ys, ByteOk x) (h : strOfNums xs = strOfNums ys) : xs = ys := by
  have h1 := congrArg (fun s : ByteArray => s.data.toList) h
  simp only [strOfNums_data] at h1
  clear h
  induction xs generalizing ys with
  | nil => cases ys with
    | nil => rfl
    | cons y r => simp at h1
  | cons x r ih => cases ys with
    | nil => simp at h1
    | cons y s =>
      simp only [List.map_cons, List.cons.injEq] at h1
      have hx0 := hx x (by simp)
      have hy0 := hy y (by simp)
      unfold ByteOk at hx0 hy0
      have e : x = y := by
        have := congrArg UInt8.toNat h1.1
        simp at this
        omega
      rw [e, ih (fun z hz => hx z (by simp [hz])) (fun z hz => hy z (by simp [hz])) h1.2]
theorem run_text (w : World) (B : Nat) (A : Option Addr) (n c : Nat) (xs : List Int) (h : Reads w B 1 A n (nums .u8 xs)) : (convert 35 9 (.slice A n c)).run Tryd.prog w = .ok (.string (strOfNums xs)) w := by
  have hs : Tryd.prog.underlying 35 = some (.slice 5) := Tryd.underlying35
  have he : Tryd.prog.underlying 5 = some (.int .u8) := by kernel_rfl
  have hd : Tryd.prog.underlying 9 = some .string := by kernel_rfl
  have hn : n = xs.length := by have := h.1; rw [nums_length] at this; omega
  subst hn
  cases A with
  | none =>
    have h0 : xs.length = 0 := by
      rcases Nat.eq_zero_or_pos xs.length with h0 | h0
      · exact h0
      · obtain ⟨ad, e, _⟩ := h.2 h0
        cases e
    obtain rfl := List.eq_nil_of_length_eq_zero h0
    rw [run_convert_bytes_nil w _ _ hs he _ _ _ hd]
    rfl
  | some ad =>
    rw [run_convert_bytes_string w _ _ _ (some ad) _ _ hs he hd]
    have hl : (loadCells ad xs.length).run Tryd.prog w = .ok (xs.map (Value.int .u8)).toArray w := by
      have := run_loadCells_list (P := Tryd.prog) w ad (xs.map (Value.int .u8)) (fun j v hj => by
        have hjl : j < xs.length := by
          rcases Nat.lt_or_ge j xs.length with h' | h'
          · exact h'
          · simp [List.getElem?_eq_none (show (xs.map (Value.int .u8)).length ≤ j by simpa using h')] at hj
        obtain ⟨ad', e, _, hc⟩ := h.2 (by omega)
        obtain rfl := Option.some.inj e
        exact hc j v hj)
      simpa using this
    rw [run_bytesToString w ad _ _ xs hl, foldl_push_bytes]
    simp [strOfNums, ByteArray.empty, ByteArray.emptyWithCapacity]
    rfl
theorem same_any (w : World) (A : Option Addr) (n c : Nat) (xs : List Int) (B : Option Addr) (m d : Nat) (ys : List Int) (hx : Reads w w.heap.size 1 A n (nums .u8 xs)) (hy : Reads w w.heap.size 1 B m (nums .u8 ys)) (hbx : ∀ x ∈ xs, ByteOk x) (hby : ∀ x ∈ ys, ByteOk x) :
    Calls Tryd.prog 14 #[.slice A n c, .slice B m d] w (fun e w' => e = .returned (.bool (decide (xs = ys))) ∧ w = w') := by
  have h1 := run_text w _ A n c xs hx
  have h2 := run_text w _ B m d ys hy
  have HE : Hid (decide (xs = ys) = ((strOfNums xs).toList == (strOfNums ys).toList)) := by
    unfold Hid
    by_cases e : xs = ys
    · subst e; simp
    · rw [decide_eq_false e]
      symm
      apply Bool.eq_false_iff.2
      intro h
      have h' : (strOfNums xs).toList = (strOfNums ys).toList := by simpa using h
      rw [ByteArray.toList_eq, ByteArray.toList_eq] at h'
      have h1 : strOfNums xs = strOfNums ys := by
        generalize strOfNums xs = a at *
        generalize strOfNums ys = b at *
        obtain ⟨⟨x⟩⟩ := a
        obtain ⟨⟨y⟩⟩ := b
        simp at h'
        rw [h']
      exact e (strOf_inj hbx hby h1)
  clear hx hy hbx hby
  generalize strOfNums xs = s at *
  generalize strOfNums ys = t at *
  go_enter Tryd.func14, Tryd.ntmps14
  go_wp2
  go_ret
  rw [HE.out]
  exact ⟨rfl, rfl⟩
end Go.Proofs.YtgjcofoicnnnhaaDoor

/- The laws of Store: a block of the right size. -/
namespace Go.Proofs.YtgjcofoicnnnhaaDoor
open Go.RowKit
set_option maxRecDepth 20000

def keepB (p : Pv) : Bool := p.d || p.da.length % 7 == 6
def cutB (bl : Nat) (l : List Int) (k : Nat) : List Int := l.take k ++ List.replicate (bl - k) 0
def blockM (bl : Nat) (p : Pv) : Pv := if keepB p then p else { p with da := cutB bl p.da (min bl p.da.length) }

theorem cutB_length (bl : Nat) (l : List Int) (k : Nat) (h : k ≤ bl) (h2 : k ≤ l.length) : (cutB bl l k).length = bl := by simp [cutB]; omega
theorem cutB_set (bl : Nat) (l : List Int) (k : Nat) (h : k < bl) (h2 : k < l.length) : (cutB bl l k).set k (l.getD k 0) = cutB bl l (k + 1) := by
  unfold cutB
  rw [List.set_append_right _ _ (by simp; omega), List.take_succ_eq_append_getElem h2]
  rw [show k - (l.take k).length = 0 by simp; omega]
  obtain ⟨j, hj⟩ : ∃ j, bl - k = j + 1 := ⟨bl - k - 1, by omega⟩
  rw [hj, List.replicate_succ, List.set_cons_zero, show bl - (k + 1) = j by omega]
  simp only [List.getD_eq_getElem?_getD, List.getElem?_eq_getElem h2, Option.getD_some, List.append_assoc, List.singleton_append]
theorem Blk.reads {w : World} {g : Nat} {l : List Int} (h : Blk w g 5 (nums .u8 l).toArray) : Reads w w.heap.size 1 (some ⟨g, 0, none⟩) l.length (nums .u8 l) :=
  ⟨by rw [nums_length]; omega, fun _ => ⟨_, rfl, h.lt, fun j u hu => by
    rw [add0, h.cell, List.getElem?_toArray]
    exact hu⟩⟩
/-- What Block answers. -/
def Blocked (bl : Nat) (p : Pv) (Ad : Option Addr) (w : World) (e : Ending) (w' : World) : Prop :=
  ∃ A' c', e = .returned (.agg #[.int .u32 p.t, .int .u64 p.b, .bool p.d, .slice A' (blockM bl p).da.length c']) ∧ Below w.heap.size w w' ∧ Reads w' w'.heap.size 1 A' (blockM bl p).da.length (nums .u8 (blockM bl p).da) ∧ (blockM bl p).da.length ≤ c' ∧ (∀ ad, A' = some ad → (Ad = some ad ∧ (blockM bl p).da.length = p.da.length) ∨ w.heap.size ≤ ad.block)

set_option maxHeartbeats 2000000 in
theorem block_any (w : World) (bl : Nat) (hbl : bl ≤ 65536) (p : Pv) (Ad : Option Addr) (cd : Nat) (hr : Reads w w.heap.size 1 Ad p.da.length (nums .u8 p.da)) (hc : p.da.length ≤ cd) (hl : p.da.length ≤ 100000000) :
    Calls Tryd.prog 28 #[.int .i64 bl, .agg #[.int .u32 p.t, .int .u64 p.b, .bool p.d, .slice Ad p.da.length cd]] w (Blocked bl p Ad w) := by
  obtain ⟨pt, pb, pd, da⟩ := p
  simp only at hr hc hl ⊢
  have HC := Lib.hid hc
  clear hc
  cases pd with
  | true =>
    have HK : Hid (∀ u, Below w.heap.size w u → Blocked bl ⟨pt, pb, true, da⟩ Ad w (.returned (.agg #[.int .u32 pt, .int .u64 pb, .bool true, .slice Ad da.length cd])) u) := fun u hu => ⟨Ad, cd, rfl, hu, (hr.below hu).more hu.size, HC.out, fun _ h => .inl ⟨h, rfl⟩⟩
    clear hr
    go_enter Tryd.func28, Tryd.ntmps28
    go_wp2
    go_returns
    exact HK.out _ (((Below.refl _ w).alloc (Nat.le_refl _) _).alloc (by simp) _)
  | false =>
    by_cases h6 : da.length % 7 = 6
    · have HK : Hid (∀ u, Below w.heap.size w u → Blocked bl ⟨pt, pb, false, da⟩ Ad w (.returned (.agg #[.int .u32 pt, .int .u64 pb, .bool false, .slice Ad da.length cd])) u) := fun u hu => by
        have e : blockM bl ⟨pt, pb, false, da⟩ = ⟨pt, pb, false, da⟩ := by unfold blockM keepB; simp [h6]
        unfold Blocked
        rw [e]
        exact ⟨Ad, cd, rfl, hu, (hr.below hu).more hu.size, HC.out, fun _ h => .inl ⟨h, rfl⟩⟩
      have h7 : ((da.length : Int) % 7 == 6) = true := by simp; omega
      clear hr h6
      go_enter Tryd.func28, Tryd.ntmps28
      go_wp2
      go_returns
      exact HK.out _ (((Below.refl _ w).alloc (Nat.le_refl _) _).alloc (by simp) _)
    · have HE : Hid (blockM bl ⟨pt, pb, false, da⟩ = ⟨pt, pb, false, cutB bl da (min bl da.length)⟩) := by unfold Hid blockM keepB; simp [h6]
      have h7 : ((da.length : Int) % 7 == 6) = false := by simp; omega
      have HR := Lib.hid hr
      have hmk := run_make_u8 bl hbl
      clear hr h6
      go_enter Tryd.func28, Tryd.ntmps28
      go_wp2_with (fail)
      have hS : Hid (Below w.heap.size w (((w.alloc (.cells #[.int .u32 pt, .int .u64 pb, .bool false, .slice Ad da.length cd] 37)).alloc (.cells #[.int .u32 0, .int .u64 0, .bool false, .slice none 0 0] 37)).alloc (.cells (fillv 0 bl 0).toArray 5)) ∧
          Blk (((w.alloc (.cells #[.int .u32 pt, .int .u64 pb, .bool false, .slice Ad da.length cd] 37)).alloc (.cells #[.int .u32 0, .int .u64 0, .bool false, .slice none 0 0] 37)).alloc (.cells (fillv 0 bl 0).toArray 5)) w.heap.size 37 #[.int .u32 pt, .int .u64 pb, .bool false, .slice Ad da.length cd] ∧
          Blk (((w.alloc (.cells #[.int .u32 pt, .int .u64 pb, .bool false, .slice Ad da.length cd] 37)).alloc (.cells #[.int .u32 0, .int .u64 0, .bool false, .slice none 0 0] 37)).alloc (.cells (fillv 0 bl 0).toArray 5)) (w.heap.size + 1) 37 #[.int .u32 0, .int .u64 0, .bool false, .slice none 0 0] ∧
          Blk (((w.alloc (.cells #[.int .u32 pt, .int .u64 pb, .bool false, .slice Ad da.length cd] 37)).alloc (.cells #[.int .u32 0, .int .u64 0, .bool false, .slice none 0 0] 37)).alloc (.cells (fillv 0 bl 0).toArray 5)) (w.heap.size + 1 + 1) 5 (nums .u8 (cutB bl da 0)).toArray) := by
        have e0 : (fillv 0 bl 0).toArray = (nums .u8 (cutB bl da 0)).toArray := by simp [fillv, nums, cutB]
        have b1 := Blk.new w 37 #[.int .u32 pt, .int .u64 pb, .bool false, .slice Ad da.length cd]
        have b2 := Blk.new (w.alloc (.cells #[.int .u32 pt, .int .u64 pb, .bool false, .slice Ad da.length cd] 37)) 37 #[.int .u32 0, .int .u64 0, .bool false, .slice none 0 0]
        have b3 := Blk.new ((w.alloc (.cells #[.int .u32 pt, .int .u64 pb, .bool false, .slice Ad da.length cd] 37)).alloc (.cells #[.int .u32 0, .int .u64 0, .bool false, .slice none 0 0] 37)) 5 (fillv 0 bl 0).toArray
        refine ⟨(((Below.refl _ w).alloc (Nat.le_refl _) _).alloc (by simp) _).alloc (by simp; omega) _, (b1.alloc _).alloc _, ?_, ?_⟩
        · have := b2.alloc (.cells (fillv 0 bl 0).toArray 5)
          simpa only [World.size_alloc] using this
        · rw [e0] at b3 ⊢
          simpa only [World.size_alloc] using b3
      generalize (((w.alloc (.cells #[.int .u32 pt, .int .u64 pb, .bool false, .slice Ad da.length cd] 37)).alloc (.cells #[.int .u32 0, .int .u64 0, .bool false, .slice none 0 0] 37)).alloc (.cells (fillv 0 bl 0).toArray 5)) = wS at *
      clear hmk
      go_loopw [6] (fun i wr => ∃ k : Nat, k ≤ bl ∧ k ≤ da.length ∧ i = .int .i64 k ∧ Hid (Below w.heap.size w wr ∧ Blk wr w.heap.size 37 #[.int .u32 pt, .int .u64 pb, .bool false, .slice Ad da.length cd] ∧ Blk wr (w.heap.size + 1) 37 #[.int .u32 0, .int .u64 0, .bool false, .slice none 0 0] ∧ Blk wr (w.heap.size + 1 + 1) 5 (nums .u8 (cutB bl da k)).toArray)) (fun i _ => bl - (intOf i).toNat)
      case atStart => exact ⟨0, Nat.zero_le _, Nat.zero_le _, rfl, hS⟩
      case round =>
        obtain ⟨k, hk1, hk2, rfl, hrel⟩ := hrel
        clear hS
        have q3 : wr.cell? ⟨w.heap.size, 3, none⟩ = some (.slice Ad da.length cd) := hrel.out.2.1.cell 3
        by_cases hx : k < bl
        · by_cases hy : k < da.length
          · obtain ⟨ad, u, rfl, _, hu, hcell⟩ := ((HR.out.below hrel.out.1).more hrel.out.1.size).at_ hy
            rw [nums_get _ _ _ hy] at hu
            obtain rfl := Option.some.inj hu
            have gc : wr.cell? ⟨w.heap.size + 1 + 1, k, none⟩ = some (.int .u8 ((cutB bl da k).getD k 0)) := by
              rw [hrel.out.2.2.2.cell, List.getElem?_toArray]
              exact nums_get _ _ _ (by rw [cutB_length _ _ _ hk1 hk2]; exact hx)
            have gf : wr.frozen? ⟨w.heap.size + 1 + 1, k, none⟩ = false := hrel.out.2.2.2.frozen k
            have HXY := Lib.hid (And.intro hx hy)
            have hn : Hid (Below w.heap.size w (wr.setCell ⟨w.heap.size + 1 + 1, k, none⟩ (.int .u8 (da.getD k 0))) ∧ Blk (wr.setCell ⟨w.heap.size + 1 + 1, k, none⟩ (.int .u8 (da.getD k 0))) w.heap.size 37 #[.int .u32 pt, .int .u64 pb, .bool false, .slice (some ad) da.length cd] ∧ Blk (wr.setCell ⟨w.heap.size + 1 + 1, k, none⟩ (.int .u8 (da.getD k 0))) (w.heap.size + 1) 37 #[.int .u32 0, .int .u64 0, .bool false, .slice none 0 0] ∧ Blk (wr.setCell ⟨w.heap.size + 1 + 1, k, none⟩ (.int .u8 (da.getD k 0))) (w.heap.size + 1 + 1) 5 (nums .u8 (cutB bl da (k + 1))).toArray) := by
              have hkp := (Kp.refl (fun b => b = w.heap.size + 1 + 1) wr).setCell (p := ⟨w.heap.size + 1 + 1, k, none⟩) (.inl rfl) (.int .u8 (da.getD k 0))
              have hs := hrel.out.2.2.2.set_ k (.int .u8 (da.getD k 0))
              rw [nums_set, cutB_set _ _ _ hx hy] at hs
              exact ⟨hrel.out.1.setCell (p := ⟨w.heap.size + 1 + 1, k, none⟩) (by show w.heap.size ≤ w.heap.size + 1 + 1; omega) _, hkp.blk hrel.out.2.1 (by omega), hkp.blk hrel.out.2.2.1 (by omega), hs⟩
            generalize da.getD k 0 = v at *
            clear hrel
            go_wp2
            go_roundw
            case rel => exact ⟨k + 1, HXY.out.1, HXY.out.2, by go_num, hn⟩
            case measure => have := HXY.out.1; simp [intOf]; omega
          · have hke : k = da.length := by omega
            subst hke
            have q0 : wr.cell? ⟨w.heap.size, 0, none⟩ = some (.int .u32 pt) := hrel.out.2.1.cell 0
            have q1 : wr.cell? ⟨w.heap.size, 1, none⟩ = some (.int .u64 pb) := hrel.out.2.1.cell 1
            have q2 : wr.cell? ⟨w.heap.size, 2, none⟩ = some (.bool false) := hrel.out.2.1.cell 2
            have qf : ∀ i, wr.frozen? ⟨w.heap.size, i, none⟩ = false := fun i => hrel.out.2.1.frozen i
            have r0 : wr.cell? ⟨w.heap.size + 1, 0, none⟩ = some (.int .u32 0) := hrel.out.2.2.1.cell 0
            have r1 : wr.cell? ⟨w.heap.size + 1, 1, none⟩ = some (.int .u64 0) := hrel.out.2.2.1.cell 1
            have r2 : wr.cell? ⟨w.heap.size + 1, 2, none⟩ = some (.bool false) := hrel.out.2.2.1.cell 2
            have r3 : wr.cell? ⟨w.heap.size + 1, 3, none⟩ = some (.slice none 0 0) := hrel.out.2.2.1.cell 3
            have rf : ∀ i, wr.frozen? ⟨w.heap.size + 1, i, none⟩ = false := fun i => hrel.out.2.2.1.frozen i
            have hfin : Hid (∀ K : Nat, (K = bl) → ∀ u, Kp (fun b => b = w.heap.size ∨ b = w.heap.size + 1) wr u → Blocked bl ⟨pt, pb, false, da⟩ Ad w (.returned (.agg #[.int .u32 pt, .int .u64 pb, .bool false, .slice (some ⟨w.heap.size + 1 + 1, 0, none⟩) K K])) u) := fun K hK u hu => by
              subst hK
              have hb := hu.blk hrel.out.2.2.2 (by omega)
              have hm : da.length = min K da.length := by omega
              have hlen : (cutB K da (min K da.length)).length = K := cutB_length _ _ _ (by omega) (by omega)
              have hb2 : Blk u (w.heap.size + 1 + 1) 5 (nums .u8 (cutB K da (min K da.length))).toArray := by rw [← hm]; exact hb
              unfold Blocked
              rw [HE.out]
              refine ⟨some ⟨w.heap.size + 1 + 1, 0, none⟩, K, by simp only [hlen], Kp.below hrel.out.1 hu hrel.out.1.size (fun b hb h => by omega), Blk.reads hb2, Nat.le_of_eq hlen, fun ad e => .inr ?_⟩
              obtain rfl := Option.some.inj e
              show w.heap.size ≤ w.heap.size + 1 + 1
              omega
            have hks : ∀ v : Value, Kp (fun b => b = w.heap.size ∨ b = w.heap.size + 1) wr (((((wr.setCell ⟨w.heap.size, 3, none⟩ v).setCell ⟨w.heap.size + 1, 0, none⟩ (.int .u32 pt)).setCell ⟨w.heap.size + 1, 1, none⟩ (.int .u64 pb)).setCell ⟨w.heap.size + 1, 2, none⟩ (.bool false)).setCell ⟨w.heap.size + 1, 3, none⟩ v) := fun v =>
              (((((Kp.refl (fun b => b = w.heap.size ∨ b = w.heap.size + 1) wr).setCell (p := ⟨w.heap.size, 3, none⟩) (.inl (.inl rfl)) v).setCell (p := ⟨w.heap.size + 1, 0, none⟩) (.inl (.inr rfl)) _).setCell (p := ⟨w.heap.size + 1, 1, none⟩) (.inl (.inr rfl)) _).setCell (p := ⟨w.heap.size + 1, 2, none⟩) (.inl (.inr rfl)) _).setCell (p := ⟨w.heap.size + 1, 3, none⟩) (.inl (.inr rfl)) v
            have HKS := Lib.hid hks
            have hkb := (Kp.refl (fun b => b = w.heap.size) wr).setCell (p := ⟨w.heap.size, 3, none⟩) (.inl rfl) (.slice (some ⟨w.heap.size + 1 + 1, 0, none⟩) bl bl)
            have hbz := blk_set4 (hkb.blk hrel.out.2.2.1 (by omega)) (.int .u32 pt) (.int .u64 pb) (.bool false) (.slice (some ⟨w.heap.size + 1 + 1, 0, none⟩) bl bl)
            have HBZ := Lib.hid hbz
            have HKS2 := Lib.hid (HKS.out (.slice (some ⟨w.heap.size + 1 + 1, 0, none⟩) bl bl))
            clear hks hrel HKS hkb hbz
            go_wp2
            generalize ((((wr.setCell ⟨w.heap.size, 3, none⟩ (.slice (some ⟨w.heap.size + 1 + 1, 0, none⟩) bl bl)).setCell ⟨w.heap.size + 1, 0, none⟩ (.int .u32 pt)).setCell ⟨w.heap.size + 1, 1, none⟩ (.int .u64 pb)).setCell ⟨w.heap.size + 1, 2, none⟩ (.bool false)).setCell ⟨w.heap.size + 1, 3, none⟩ (.slice (some ⟨w.heap.size + 1 + 1, 0, none⟩) bl bl) = u at *
            have z0 : u.cell? ⟨w.heap.size + 1, 0, none⟩ = some (.int .u32 pt) := HBZ.out.cell 0
            have z1 : u.cell? ⟨w.heap.size + 1, 1, none⟩ = some (.int .u64 pb) := HBZ.out.cell 1
            have z2 : u.cell? ⟨w.heap.size + 1, 2, none⟩ = some (.bool false) := HBZ.out.cell 2
            have z3 : u.cell? ⟨w.heap.size + 1, 3, none⟩ = some (.slice (some ⟨w.heap.size + 1 + 1, 0, none⟩) bl bl) := HBZ.out.cell 3
            refine bodyPost_ret (by simp [results, Tryd.results28, go_sem, z0, z1, z2, z3]; try rfl) rfl ?_
            exact hfin.out _ rfl _ HKS2.out
        · have hke : bl = k := by omega
          subst hke
          have q0 : wr.cell? ⟨w.heap.size, 0, none⟩ = some (.int .u32 pt) := hrel.out.2.1.cell 0
          have q1 : wr.cell? ⟨w.heap.size, 1, none⟩ = some (.int .u64 pb) := hrel.out.2.1.cell 1
          have q2 : wr.cell? ⟨w.heap.size, 2, none⟩ = some (.bool false) := hrel.out.2.1.cell 2
          have qf : ∀ i, wr.frozen? ⟨w.heap.size, i, none⟩ = false := fun i => hrel.out.2.1.frozen i
          have r0 : wr.cell? ⟨w.heap.size + 1, 0, none⟩ = some (.int .u32 0) := hrel.out.2.2.1.cell 0
          have r1 : wr.cell? ⟨w.heap.size + 1, 1, none⟩ = some (.int .u64 0) := hrel.out.2.2.1.cell 1
          have r2 : wr.cell? ⟨w.heap.size + 1, 2, none⟩ = some (.bool false) := hrel.out.2.2.1.cell 2
          have r3 : wr.cell? ⟨w.heap.size + 1, 3, none⟩ = some (.slice none 0 0) := hrel.out.2.2.1.cell 3
          have rf : ∀ i, wr.frozen? ⟨w.heap.size + 1, i, none⟩ = false := fun i => hrel.out.2.2.1.frozen i
          have hfin : Hid (∀ K : Nat, (K = bl) → ∀ u, Kp (fun b => b = w.heap.size ∨ b = w.heap.size + 1) wr u → Blocked bl ⟨pt, pb, false, da⟩ Ad w (.returned (.agg #[.int .u32 pt, .int .u64 pb, .bool false, .slice (some ⟨w.heap.size + 1 + 1, 0, none⟩) K K])) u) := fun K hK u hu => by
            subst hK
            have hb := hu.blk hrel.out.2.2.2 (by omega)
            have hm : K = min K da.length := by omega
            have hlen : (cutB K da (min K da.length)).length = K := cutB_length _ _ _ (by omega) (by omega)
            have hb2 : Blk u (w.heap.size + 1 + 1) 5 (nums .u8 (cutB K da (min K da.length))).toArray := by rw [← hm]; exact hb
            unfold Blocked
            rw [HE.out]
            refine ⟨some ⟨w.heap.size + 1 + 1, 0, none⟩, K, by simp only [hlen], Kp.below hrel.out.1 hu hrel.out.1.size (fun b hb h => by omega), Blk.reads hb2, Nat.le_of_eq hlen, fun ad e => .inr ?_⟩
            obtain rfl := Option.some.inj e
            show w.heap.size ≤ w.heap.size + 1 + 1
            omega
          have hks : ∀ v : Value, Kp (fun b => b = w.heap.size ∨ b = w.heap.size + 1) wr (((((wr.setCell ⟨w.heap.size, 3, none⟩ v).setCell ⟨w.heap.size + 1, 0, none⟩ (.int .u32 pt)).setCell ⟨w.heap.size + 1, 1, none⟩ (.int .u64 pb)).setCell ⟨w.heap.size + 1, 2, none⟩ (.bool false)).setCell ⟨w.heap.size + 1, 3, none⟩ v) := fun v =>
            (((((Kp.refl (fun b => b = w.heap.size ∨ b = w.heap.size + 1) wr).setCell (p := ⟨w.heap.size, 3, none⟩) (.inl (.inl rfl)) v).setCell (p := ⟨w.heap.size + 1, 0, none⟩) (.inl (.inr rfl)) _).setCell (p := ⟨w.heap.size + 1, 1, none⟩) (.inl (.inr rfl)) _).setCell (p := ⟨w.heap.size + 1, 2, none⟩) (.inl (.inr rfl)) _).setCell (p := ⟨w.heap.size + 1, 3, none⟩) (.inl (.inr rfl)) v
          have HKS := Lib.hid hks
          have hkb := (Kp.refl (fun b => b = w.heap.size) wr).setCell (p := ⟨w.heap.size, 3, none⟩) (.inl rfl) (.slice (some ⟨w.heap.size + 1 + 1, 0, none⟩) bl bl)
          have hbz := blk_set4 (hkb.blk hrel.out.2.2.1 (by omega)) (.int .u32 pt) (.int .u64 pb) (.bool false) (.slice (some ⟨w.heap.size + 1 + 1, 0, none⟩) bl bl)
          have HBZ := Lib.hid hbz
          have HKS2 := Lib.hid (HKS.out (.slice (some ⟨w.heap.size + 1 + 1, 0, none⟩) bl bl))
          clear hks hrel HKS hkb hbz
          go_wp2
          generalize ((((wr.setCell ⟨w.heap.size, 3, none⟩ (.slice (some ⟨w.heap.size + 1 + 1, 0, none⟩) bl bl)).setCell ⟨w.heap.size + 1, 0, none⟩ (.int .u32 pt)).setCell ⟨w.heap.size + 1, 1, none⟩ (.int .u64 pb)).setCell ⟨w.heap.size + 1, 2, none⟩ (.bool false)).setCell ⟨w.heap.size + 1, 3, none⟩ (.slice (some ⟨w.heap.size + 1 + 1, 0, none⟩) bl bl) = u at *
          have z0 : u.cell? ⟨w.heap.size + 1, 0, none⟩ = some (.int .u32 pt) := HBZ.out.cell 0
          have z1 : u.cell? ⟨w.heap.size + 1, 1, none⟩ = some (.int .u64 pb) := HBZ.out.cell 1
          have z2 : u.cell? ⟨w.heap.size + 1, 2, none⟩ = some (.bool false) := HBZ.out.cell 2
          have z3 : u.cell? ⟨w.heap.size + 1, 3, none⟩ = some (.slice (some ⟨w.heap.size + 1 + 1, 0, none⟩) bl bl) := HBZ.out.cell 3
          refine bodyPost_ret (by simp [results, Tryd.results28, go_sem, z0, z1, z2, z3]; try rfl) rfl ?_
          exact hfin.out _ rfl _ HKS2.out
end Go.Proofs.YtgjcofoicnnnhaaDoor

/- The laws of Store: rows of puts. -/
namespace Go.Proofs.YtgjcofoicnnnhaaDoor
open Go.RowKit
set_option maxRecDepth 20000

/-- A put in memory: what it says, where its bytes are. -/
structure Pc where
  p : Pv
  a : Option Addr
  c : Nat
def pc0 : Pc := ⟨pv0, none, 0⟩
def pcC (i : Pc) : List Value := [.int .u32 i.p.t, .int .u64 i.p.b, .bool i.p.d, .slice i.a i.p.da.length i.c]
def pcCs (L : List Pc) : List Value := L.flatMap pcC
theorem pcCs_length (L : List Pc) : (pcCs L).length = L.length * 4 := by
  induction L with
  | nil => rfl
  | cons p r ih => simp [pcCs, pcC] at ih ⊢; omega
theorem pcCs_one (L : List Pc) : ∀ u ∈ pcCs L, u.oneCell' = true := by
  intro u hu
  obtain ⟨p, _, hp⟩ := List.mem_flatMap.1 hu
  simp only [pcC, List.mem_cons, List.not_mem_nil, or_false] at hp
  rcases hp with rfl | rfl | rfl | rfl <;> rfl
theorem pcCs_get (L : List Pc) (i : Nat) (h : i < L.length) : (pcCs L)[i * 4]? = some (.int .u32 (L.getD i pc0).p.t) ∧ (pcCs L)[i * 4 + 1]? = some (.int .u64 (L.getD i pc0).p.b) ∧ (pcCs L)[i * 4 + 2]? = some (.bool (L.getD i pc0).p.d) ∧ (pcCs L)[i * 4 + 3]? = some (.slice (L.getD i pc0).a (L.getD i pc0).p.da.length (L.getD i pc0).c) := by
  induction L generalizing i with
  | nil => cases h
  | cons p r ih =>
    cases i with
    | zero => simp [pcCs, pcC]
    | succ i =>
      have := ih i (by simpa using h)
      rw [show (i + 1) * 4 = i * 4 + 4 by omega]
      simpa [pcCs, pcC] using this
theorem put_info : (Tryd.prog.info? 37).map (fun i => (i.zero, i.size, i.bytes)) = some (some (.agg #[.int .u32 0, .int .u64 0, .bool false, .slice none 0 0]), 4, 48) := by kernel_rfl
/-- A row of puts of one's own. -/
def PRow (w : World) (base : Nat) (A : Option Addr) (c : Nat) (O : List Pc) : Prop := w.ownsRow base 37 4 (.slice A O.length c) O.length (pcCs O)
theorem PRow.lt {w : World} {base c : Nat} {A : Option Addr} {O : List Pc} (h : PRow w base A c O) {b : Nat} (hb : (Value.slice A O.length c).ownBlock = some b) : base ≤ b ∧ b < w.heap.size := World.ownsRow.lt h b hb
theorem PRow.below {w w' : World} {base c B : Nat} {A : Option Addr} {O : List Pc} (h : PRow w base A c O) (hb : Below B w w') (hB : w.heap.size ≤ B) : PRow w' base A c O :=
  ownsRow_of_block h (fun b he => hb.block b (Nat.lt_of_lt_of_le (h.lt he).2 hB))
/-- What holds of each put's bytes. -/
structure PcOk (X : Nat → Prop) (w : World) (q : Pc) : Prop where
  rd : Reads w w.heap.size 1 q.a q.p.da.length (nums .u8 q.p.da)
  xd : ∀ ad, q.a = some ad → 0 < q.p.da.length → X ad.block
  cap : q.p.da.length ≤ q.c
theorem PcOk.below {X : Nat → Prop} {w w' : World} {q : Pc} (h : PcOk X w q) (hb : Below w.heap.size w w') : PcOk X w' q := ⟨(h.rd.below hb).more hb.size, h.xd, h.cap⟩
theorem PcOk.more {X X' : Nat → Prop} {w : World} {q : Pc} (h : PcOk X w q) (hx : ∀ b, X b → X' b) : PcOk X' w q := ⟨h.rd, fun ad e h0 => hx _ (h.xd ad e h0), h.cap⟩
theorem PRow.puts {X : Nat → Prop} {w : World} {base c : Nat} {A : Option Addr} {O : List Pc} (h : PRow w base A c O) (hx : ∀ b, base ≤ b → b < w.heap.size → X b) (hq : ∀ q ∈ O, PcOk X w q) : PutsAt X w A (O.map (·.p)) := fun i hi => by
  have hi' : i < O.length := by simpa using hi
  have hgd : (O.map (·.p)).getD i pv0 = (O.getD i pc0).p := by simp [List.getD_eq_getElem?_getD, hi']
  rw [hgd]
  have hok := hq _ (getD_mem (d := pc0) hi')
  rcases h.2 with ⟨_, h0⟩ | ⟨g, cap, cur, hv, hg, hh, hnc, hcm, hcs, ht⟩
  · omega
  · injection hv with e1 e2 e3
    subst e1
    obtain ⟨q0, q1, q2, q3⟩ := pcCs_get O i hi'
    have hc : ∀ j, j < 4 → w.cell? ⟨g, i * 4 + j, none⟩ = (pcCs O)[i * 4 + j]? := fun j hj => World.ownsRow.cellAt h (i * 4 + j) (by omega)
    have hgl : g < w.heap.size := (h.lt (b := g) rfl).2
    refine ⟨⟨g, 0, none⟩, (O.getD i pc0).a, (O.getD i pc0).c, rfl, ?_⟩
    rw [add0]
    exact ⟨hx g hg hgl, (hc 0 (by omega)).trans q0, (hc 1 (by omega)).trans q1, (hc 2 (by omega)).trans q2, (hc 3 (by omega)).trans q3, hok.rd, hok.xd, hok.cap⟩
/-- 'append(out, x)', a step of a region. -/
theorem step_append_pc (u : World) {ops : Array Oper} {o : Oper} {a : Act} {K : Act → World → Prop} {Q : Exit → Act → World → Prop} {E : Prop} (hgd : o.guard = none) (s x : Operand)
    (ho : o.op = .call { callee := .builtin .append, args := #[s, x], argTypes := #[24, 24] }) {base c g : Nat} {A : Option Addr} (O : List Pc) (i : Pc)
    (hown : PRow u base A c O) {n : Nat} (hn : n = O.length) (hs : a.eval s = .slice A n c) (hx : a.eval x = .slice (some ⟨g, 0, none⟩) 1 1) (hsrc : Blk u g 37 #[.int .u32 i.p.t, .int .u64 i.p.b, .bool i.p.d, .slice i.a i.p.da.length i.c]) (hlen : O.length ≤ 1000000) (hbase : base ≤ u.heap.size)
    (h : ∀ A' c' w', PRow w' base A' c' (O ++ [i]) → Kp (fun b => (Value.slice A O.length c).ownBlock = some b) u w' → K (a.put o.dst (.slice A' (O ++ [i]).length c')) w') :
    if Region.wanted o (yielded ops a.tmps) = true then Oper.wp Tryd.prog o a u K Q else E := by
  subst hn
  obtain ⟨i0, hi0, hz0, hz1, hz2⟩ := info_parts put_info
  have hr : Reads u u.heap.size 4 (some ⟨g, 0, none⟩) 1 (pcC i) := ⟨rfl, fun _ => ⟨_, rfl, hsrc.lt, fun j v hv => by
    rw [add0, hsrc.cell, List.getElem?_toArray]
    exact hv⟩⟩
  refine step_append_any u hgd s x _ ho base 37 i0 _ 4 48 Tryd.underlying24 hi0 hz0 hz1 hz2 rfl (by omega) (.slice A O.length c) O.length (pcCs O) hs hown _ _ 1 1 (pcC i) hx hr ?_ (by simp only [maxLen]; omega) (by omega) hbase ?_
  · intro v hv
    exact pcCs_one [i] v (by simpa [pcCs] using hv)
  · intro v' w' hown' hg _
    obtain ⟨A', c', rfl⟩ := own_form hown'
    have e : pcCs O ++ pcC i = pcCs (O ++ [i]) := by simp [pcCs]
    rw [e, show O.length + 1 = (O ++ [i]).length by simp] at hown'
    have := h A' c' w' hown' ⟨hg.os, hg.tape, hg.output, hg.size, fun b hb hn => hg.block b hb (fun e => hn e.symm)⟩
    simpa using this
end Go.Proofs.YtgjcofoicnnnhaaDoor

/- The laws of Store: a list of puts among the arguments, opened; a list of calls. -/
namespace Go.Proofs.YtgjcofoicnnnhaaDoor
open Go.ChangeShapes Go.WideShapes Go.ChangeAt Go.RowKit
set_option maxRecDepth 20000

theorem wfo_i64 {n : Int} (h : (Lit.int .i64 n).wf = true) : -9223372036854775808 ≤ n ∧ n ≤ 9223372036854775807 := by
  simpa [Lit.wf, IntKind.min, IntKind.max, IntKind.signed, IntKind.bits] using h
theorem wfo_u32 {n : Int} (h : (Lit.int .u32 n).wf = true) : 0 ≤ n ∧ n ≤ 4294967295 := by
  simpa [Lit.wf, IntKind.min, IntKind.max, IntKind.signed, IntKind.bits] using h
theorem wfo_u64 {n : Int} (h : (Lit.int .u64 n).wf = true) : 0 ≤ n ∧ n ≤ 18446744073709551615 := by
  simpa [Lit.wf, IntKind.min, IntKind.max, IntKind.signed, IntKind.bits] using h
theorem wfo_u8 {n : Int} (h : (Lit.int .u8 n).wf = true) : 0 ≤ n ∧ n ≤ 255 := by
  simpa [Lit.wf, IntKind.min, IntKind.max, IntKind.signed, IntKind.bits] using h
/-- What is known of a put that came in. -/
structure PvIn (p : Pv) : Prop where
  n : NameOk p.n
  by_ : ∀ x ∈ p.da, ByteOk x
theorem PvIn.ok {p : Pv} (h : PvIn p) (hl : p.da.length ≤ 100000000) : PvOk p := ⟨h.n, h.by_, hl⟩

instance : Inhabited Pv := ⟨pv0⟩
theorem put_cellsOf : Tryd.prog.cellsOf 37 = 4 ∧ Tryd.prog.cellsOf 4 = 1 ∧ Tryd.prog.cellsOf 33 = 1 ∧ Tryd.prog.cellsOf 34 = 1 ∧ Tryd.prog.cellsOf 35 = 1 ∧ Tryd.prog.cellsOf 5 = 1 := by
  refine ⟨?_, ?_, ?_, ?_, ?_, ?_⟩ <;> kernel_rfl

section
variable {H : Type} {enc : TypeId × Value → H} {w : World} {base : Nat} {sp : Nat → Bool} {held : Bool}

theorem bytes_trod {n : Nat} {cs : List Value} {x : DataW H × List MemPlace} (h : DataW.trod enc Tryd.prog w base sp held n 35 cs = some x) :
    ∃ A c l, cs = [.slice A (List.length l) c] ∧ Reads w w.heap.size 1 A l.length (nums .u8 l) ∧ l.length ≤ c ∧ ∀ x ∈ l, ByteOk x := by
  rcases Go.ChangeShapes.open_ints Tryd.underlying35 Tryd.underlying5 put_cellsOf.2.2.2.2.2 h with ⟨hcs, _⟩ | ⟨a, len, cap, zs, hcs, _, hl, hm, hz, _, hx, hwf⟩
  · exact ⟨none, 0, [], hcs, Reads.none_, Nat.zero_le _, fun x hx => by cases hx⟩
  · have hlz : len ≤ zs.length := by rw [hz]; split <;> omega
    have hlen : (zs.take len).length = len := by rw [List.length_take]; omega
    refine ⟨some a, cap, zs.take len, by rw [hcs, hlen], ⟨by rw [nums_length, Nat.mul_one], fun hn => ?_⟩, by rw [hlen]; exact hl, fun x hx' => wfo_u8 (hwf x (List.mem_of_mem_take hx'))⟩
    rw [hlen] at hn
    have hc0 := hx 0 (by omega)
    refine ⟨a, rfl, by have := World.block_lt_of_cell? w _ hc0; rw [block_of_add] at this; exact this, fun j u hu => ?_⟩
    have hj : j < len := by
      have := (List.getElem?_eq_some_iff.mp hu).1
      rw [nums_length, hlen] at this
      exact this
    rw [nums_get .u8 _ j (by rw [hlen]; exact hj)] at hu
    injection hu with hu
    rw [hx j (by omega), ← hu]
    simp [List.getD_eq_getElem?_getD, hj]

theorem put_cells {n : Nat} {cs : List Value} {x : DataW H × List MemPlace} (h : DataW.trod enc Tryd.prog w base sp held n 37 cs = some x) :
    ∃ (p : Pv) (A : Option Addr) (c : Nat), cs = [.int .u32 p.t, .int .u64 p.b, .bool p.d, .slice A p.da.length c] ∧ PvIn p ∧ Reads w w.heap.size 1 A p.da.length (nums .u8 p.da) ∧ p.da.length ≤ c := by
  obtain ⟨k4, kb, ku, kv, ks, _⟩ := put_cellsOf
  obtain ⟨xs, n1, rfl, rfl, hl, hxl, hf⟩ := DataW.trod_struct Tryd.underlying37 h
  rw [k4] at hl
  match cs, hl with
  | [v0, v1, v2, v3], _ =>
    match xs, hxl with
    | [y0, y1, y2, y3], _ =>
      have g0 := hf 0 _ rfl
      have g1 := hf 1 _ rfl
      have g2 := hf 2 _ rfl
      have g3 := hf 3 _ rfl
      simp [kb, ku, kv, ks] at g0 g1 g2 g3
      obtain ⟨t, e0, _, wt⟩ := DataW.trod_int Tryd.underlying33 g0
      obtain ⟨bl, e1, _, wb⟩ := DataW.trod_int Tryd.underlying34 g1
      obtain ⟨b, e2, _⟩ := DataW.trod_bool Tryd.underlying4 g2
      obtain ⟨A, c, l, e3, hr, hc, hb⟩ := bytes_trod g3
      simp only [List.cons.injEq, and_true] at e0 e1 e2 e3
      exact ⟨⟨t, bl, b, l⟩, A, c, by rw [e0, e1, e2, e3], ⟨⟨wfo_u32 wt, wfo_u64 wb⟩, hb⟩, hr, hc⟩

theorem puts_trod {n : Nat} {cs : List Value} {x : DataW H × List MemPlace} (h : DataW.trod enc Tryd.prog w base sp held n 24 cs = some x) :
    ∃ A c l, cs = [.slice A (List.length l) c] ∧ PutsAt (fun b => b < w.heap.size) w A l ∧ l.length ≤ c ∧ ∀ p ∈ l, PvIn p := by
  rcases Deep.open_slice Tryd.underlying24 h with ⟨hcs, _⟩ | ⟨a, len, cap, m, n, D, Pq, hcs, _, hl, hm, hmm, _, hx⟩
  · exact ⟨none, 0, [], hcs, fun i hi => by simp at hi, Nat.zero_le _, fun p hp => by cases hp⟩
  · have hlm : len ≤ m := by rw [hmm]; split <;> omega
    have hV : ∀ i, i < len → ∃ p : Pv, (∃ Ad cd, PutAt (fun b => b < w.heap.size) w (a.add (i * 4)) p Ad cd) ∧ PvIn p := by
      intro i hi
      obtain ⟨cs', h1, h2⟩ := hx i (by omega)
      rw [put_cellsOf.1] at h1
      obtain ⟨_, hlen, hcell⟩ := World.cells?_some h1
      obtain ⟨p, Ad, cd, rfl, hk, hr, hc⟩ := put_cells h2
      have c0 : w.cell? (a.add (i * 4)) = some (.int .u32 p.t) := hcell 0 (by omega)
      have hb := World.block_lt_of_cell? w _ c0
      refine ⟨p, ⟨Ad, cd, hb, c0, ?_, ?_, ?_, hr, fun ad e h0 => ?_, hc⟩, hk⟩
      · exact hcell 1 (by omega)
      · exact hcell 2 (by omega)
      · exact hcell 3 (by omega)
      · obtain ⟨ad', e', hb', _⟩ := hr.2 h0
        obtain rfl := Option.some.inj (e.symm.trans e')
        exact hb'
    obtain ⟨f, hf⟩ := Deep.choose_lt hV
    have hlen : ((List.range len).map f).length = len := by simp
    have hget : ∀ i, i < len → ((List.range len).map f).getD i pv0 = f i := fun i hi => by simp [List.getD_eq_getElem?_getD, hi]
    refine ⟨some a, cap, (List.range len).map f, by rw [hcs, hlen], fun i hi => ?_, by rw [hlen]; exact hl, fun p hp => ?_⟩
    · rw [hlen] at hi
      rw [hget i hi]
      obtain ⟨Ad, cd, h⟩ := (hf i hi).1
      exact ⟨a, Ad, cd, rfl, h⟩
    · obtain ⟨i, hi, rfl⟩ := List.mem_map.1 hp
      exact (hf i (List.mem_range.1 hi)).2

theorem open_putlist {b0 : Nat} {v : Value} {d : DataW H} {ps : List MemPlace} (hval : Value.okWide Tryd.prog w .any b0 24 v) (h : DataW.Trod enc Tryd.prog w base sp held 24 v d ps) :
    ∃ A c l, v = .slice A (List.length l) c ∧ PutsAt (fun b => b < w.heap.size) w A l ∧ l.length ≤ c ∧ ∀ p ∈ l, PvIn p := by
  obtain ⟨A, len, cap, rfl⟩ := okWide_slice Tryd.underlying24 hval
  obtain ⟨fuel, hf⟩ := h
  obtain ⟨A', c, l, e, h1, h2, h3⟩ := puts_trod hf
  simp only [Value.cells, List.cons.injEq, and_true] at e
  exact ⟨A', c, l, e, h1, h2, h3⟩
end
end Go.Proofs.YtgjcofoicnnnhaaDoor

/- The laws of Store: blocks of the right size. -/
namespace Go.Proofs.YtgjcofoicnnnhaaDoor
open Go.RowKit
set_option maxRecDepth 20000

theorem run_append_pc (w : World) (ty : TypeId) {base c g : Nat} {A : Option Addr} (O : List Pc) (i : Pc) (hown : PRow w base A c O) (hsrc : Blk w g 37 #[.int .u32 i.p.t, .int .u64 i.p.b, .bool i.p.d, .slice i.a i.p.da.length i.c]) (hlen : O.length ≤ 1000000) (hbase : base ≤ w.heap.size) :
    ∃ A' c' w', (Builtin.append_ #[24, 24] ty #[.slice A O.length c, .slice (some ⟨g, 0, none⟩) 1 1]).run Tryd.prog w = .ok (.slice A' (O.length + 1) c') w' ∧ PRow w' base A' c' (O ++ [i]) ∧ Kp (fun b => (Value.slice A O.length c).ownBlock = some b) w w' ∧ ((Value.slice A' (O.length + 1) c').ownBlock = (Value.slice A O.length c).ownBlock ∨ (Value.slice A' (O.length + 1) c').ownBlock = some w.heap.size) := by
  obtain ⟨i0, hi0, hz0, hz1, hz2⟩ := info_parts put_info
  have hr : Reads w w.heap.size 4 (some ⟨g, 0, none⟩) 1 (pcC i) := ⟨rfl, fun _ => ⟨_, rfl, hsrc.lt, fun j v hv => by
    rw [add0, hsrc.cell, List.getElem?_toArray]
    exact hv⟩⟩
  obtain ⟨v', w', hrun, hown', hg, hor⟩ := run_append_any (P := Tryd.prog) (w := w) base 24 ty 37 i0 _ 4 48 Tryd.underlying24 hi0 hz0 hz1 hz2 rfl (by omega) (.slice A O.length c) O.length (pcCs O) hown _ _ 1 1 (pcC i) hr (fun v hv => pcCs_one [i] v (by simpa [pcCs] using hv)) (by simp only [maxLen]; omega) (by omega) hbase
  obtain ⟨A', c', rfl⟩ := own_form hown'
  have e : pcCs O ++ pcC i = pcCs (O ++ [i]) := by simp [pcCs]
  refine ⟨A', c', w', hrun, ?_, ⟨hg.os, hg.tape, hg.output, hg.size, fun b hb hn => hg.block b hb (fun e => hn e.symm)⟩, hor⟩
  rw [e, show O.length + 1 = (O ++ [i]).length by simp] at hown'
  exact hown'

theorem wpList_append_run {P : Program} {w w' : World} {ops : Array Oper} {rest : List Oper} {o : Oper} {a : Act} {Q : Exit → Act → World → Prop} (hgd : o.guard = none) (s x : Operand) (t : TypeId)
    (ho : o.op = .call { callee := .builtin .append, args := #[s, x], argTypes := #[t, t] }) {v vx v' : Value} (hs : a.eval s = v) (hx : a.eval x = vx)
    (hrun : (Builtin.append_ #[t, t] o.type #[v, vx]).run P w = .ok v' w') (h : wpList P ops Q rest (a.put o.dst v') w') : wpList P ops Q (o :: rest) a w :=
  wpList_plain hgd fun _ hK => by
    unfold Oper.wp execOp
    simp only [ho, resolve, invoke, builtin, Sem.run_bind, Sem.run_pure, Result.andThen_ok, List.map_toArray, List.map_cons, List.map_nil, hs, hx, hrun]
    exact hK _ _ h

structure BlInv (X : Nat → Prop) (w wr : World) (bl : Nat) (l : List Pv) (k : Nat) (A : Option Addr) (c : Nat) (O : List Pc) : Prop where
  row : PRow wr w.heap.size A c O
  mp : O.map (·.p) = (l.take k).map (blockM bl)
  len : O.length = k
  ok : ∀ q ∈ O, PcOk (fun b => X b ∨ w.heap.size ≤ b) wr q
  low : Below w.heap.size w wr
  nd : ∀ q ∈ O, ∀ ad, q.a = some ad → 0 < q.p.da.length → (Value.slice A O.length c).ownBlock ≠ some ad.block

theorem blocks_any (X : Nat → Prop) (w : World) (bl : Nat) (hbl : bl ≤ 65536) (A : Option Addr) (c : Nat) (l : List Pv) (hp : PutsAt X w A l) (hl : l.length ≤ 100000) (hd : ∀ p ∈ l, p.da.length ≤ 100000000) (hX : ∀ b, X b → b < w.heap.size) :
    Calls Tryd.prog 10 #[.int .i64 bl, .slice A l.length c] w (fun e w' => ∃ A' c' O, e = .returned (.slice A' O.length c') ∧ BlInv X w w' bl l l.length A' c' O) := by
  have HP := Lib.hid hp
  have HD := Lib.hid hd
  have HBL := Lib.hid hbl
  have HX := Lib.hid hX
  have h0 : Hid (BlInv X w w bl l 0 none 0 []) := ⟨World.ownsRow_nil _ _ _ _, rfl, rfl, fun q hq => (by cases hq), Below.refl _ _, fun q hq => (by cases hq)⟩
  clear hp hd hX
  go_enter Tryd.func10, Tryd.ntmps10
  go_wp2_with (fail)
  go_loopw [5, 6] (fun s i wr => ∃ (k : Nat) (A' : Option Addr) (c' : Nat) (O : List Pc), k ≤ l.length ∧ s = .slice A' k c' ∧ i = .int .i64 k ∧ Hid (BlInv X w wr bl l k A' c' O)) (fun _ i _ => l.length - (intOf i).toNat)
  case atStart => exact ⟨0, none, 0, [], Nat.zero_le _, rfl, rfl, h0⟩
  case round =>
    obtain ⟨k, A', c', O, hk, rfl, rfl, hr⟩ := hrel
    clear h0
    by_cases hlt : k < l.length
    · obtain ⟨ad, Ad, cd, rfl, hat⟩ := HP.out.below hr.out.low k hlt
      have p0 := hat.c0
      have p1 := hat.c1
      have p2 := hat.c2
      have p3 := hat.c3
      have HB := Lib.hid (block_any wr bl HBL.out (l.getD k pv0) Ad cd hat.rd hat.cap (HD.out _ (getD_mem (d := pv0) hlt)))
      have HXD := Lib.hid hat.xd
      have HLT := Lib.hid hlt
      have HTK : Hid ((l.take (k + 1)).map (blockM bl) = (l.take k).map (blockM bl) ++ [blockM bl (l.getD k pv0)]) := by
        unfold Hid
        rw [List.take_succ_eq_append_getElem hlt, List.map_append, List.getD_eq_getElem?_getD, List.getElem?_eq_getElem hlt]
        rfl
      clear hat
      generalize l.getD k pv0 = p at *
      go_wp2_with (fail)
      refine HB.out.mono ?_
      rintro e w5 ⟨A5, c5, rfl, hb5, hrd, hcap, had⟩
      have hO := hr.out
      have ht : (blockM bl p).t = p.t ∧ (blockM bl p).b = p.b ∧ (blockM bl p).d = p.d := by unfold blockM; split <;> exact ⟨rfl, rfl, rfl⟩
      have h56 : Below w5.heap.size w5 (w5.alloc (.cells #[.int .u32 p.t, .int .u64 p.b, .bool p.d, .slice A5 (blockM bl p).da.length c5] 37)) := (Below.refl _ _).alloc (Nat.le_refl _) _
      have hwb : wr.heap.size ≤ w5.heap.size := hb5.size
      have hlow : w.heap.size ≤ wr.heap.size := hO.low.size
      have hr6 : Below wr.heap.size wr (w5.alloc (.cells #[.int .u32 p.t, .int .u64 p.b, .bool p.d, .slice A5 (blockM bl p).da.length c5] 37)) := hb5.trans (h56.mono hwb)
      have hsrc : Blk (w5.alloc (.cells #[.int .u32 p.t, .int .u64 p.b, .bool p.d, .slice A5 (blockM bl p).da.length c5] 37)) w5.heap.size 37 #[.int .u32 (Pc.mk (blockM bl p) A5 c5).p.t, .int .u64 (Pc.mk (blockM bl p) A5 c5).p.b, .bool (Pc.mk (blockM bl p) A5 c5).p.d, .slice (Pc.mk (blockM bl p) A5 c5).a (Pc.mk (blockM bl p) A5 c5).p.da.length (Pc.mk (blockM bl p) A5 c5).c] := by
        simp only [ht.1, ht.2.1, ht.2.2]
        exact Blk.new w5 _ _
      obtain ⟨A7, c7, w7, hap, hrow7, hk7, hor7⟩ := run_append_pc _ 24 O ⟨blockM bl p, A5, c5⟩ (hO.row.below hr6 (Nat.le_refl _)) hsrc (by have := hO.len; omega) (Nat.le_trans hlow hr6.size)
      have hown : ∀ b, (Value.slice A' O.length c').ownBlock = some b → w.heap.size ≤ b ∧ b < wr.heap.size := fun b hb => hO.row.lt hb
      have HN : Hid (BlInv X w w7 bl l (k + 1) A7 c7 (O ++ [⟨blockM bl p, A5, c5⟩])) := by
        have hlow6 := hO.low.trans (hr6.mono hlow)
        have hnew : ∀ ad, A5 = some ad → 0 < (blockM bl p).da.length → (X ad.block ∨ wr.heap.size ≤ ad.block) := fun ad e h0 => by
          rcases had ad e with ⟨e2, e3⟩ | h
          · exact .inl (HXD.out ad e2 (by omega))
          · exact .inr h
        have hndq : ∀ ad, A5 = some ad → 0 < (blockM bl p).da.length → (Value.slice A' O.length c').ownBlock ≠ some ad.block := fun ad e h0 he => by
          have h1 := hown _ he
          rcases hnew ad e h0 with h | h
          · have := HX.out _ h; omega
          · omega
        have hkeep : ∀ q : Pc, PcOk (fun b => X b ∨ w.heap.size ≤ b) (w5.alloc (.cells #[.int .u32 p.t, .int .u64 p.b, .bool p.d, .slice A5 (blockM bl p).da.length c5] 37)) q → (∀ ad, q.a = some ad → 0 < q.p.da.length → (Value.slice A' O.length c').ownBlock ≠ some ad.block) → PcOk (fun b => X b ∨ w.heap.size ≤ b) w7 q := fun q hq hn => by
          refine ⟨⟨hq.rd.1, fun h0 => ?_⟩, hq.xd, hq.cap⟩
          obtain ⟨ad, e, hb, hc⟩ := hq.rd.2 h0
          exact ⟨ad, e, Nat.lt_of_lt_of_le hb hk7.size, fun j u hu => hk7.cell (hc j u hu) (by rw [block_of_add]; exact hn ad e h0)⟩
        refine ⟨hrow7, by rw [HTK.out, List.map_append, hO.mp]; rfl, by simp [hO.len], fun q hq => ?_, Kp.below hlow6 hk7 (Nat.le_trans hlow hr6.size) (fun b hb he => by have := hown b he; omega), fun q hq ad e h0 he => ?_⟩
        · rcases List.mem_append.1 hq with hq | hq
          · exact hkeep q ((hO.ok q hq).below (hr6)) (hO.nd q hq)
          · obtain rfl := List.mem_singleton.1 hq
            refine hkeep _ (PcOk.below ⟨hrd, fun ad e h0 => ?_, hcap⟩ h56) hndq
            rcases hnew ad e h0 with h | h
            · exact .inl h
            · exact .inr (by omega)
        · rw [show (O ++ [(⟨blockM bl p, A5, c5⟩ : Pc)]).length = O.length + 1 by simp] at he
          have hblk : (Value.slice A' O.length c').ownBlock ≠ some ad.block ∧ ad.block < (w5.alloc (.cells #[.int .u32 p.t, .int .u64 p.b, .bool p.d, .slice A5 (blockM bl p).da.length c5] 37)).heap.size := by
            rcases List.mem_append.1 hq with hq | hq
            · obtain ⟨ad2, e2, hb, _⟩ := (hO.ok q hq).rd.2 h0
              obtain rfl := Option.some.inj (e.symm.trans e2)
              exact ⟨hO.nd q hq ad e h0, Nat.lt_of_lt_of_le hb hr6.size⟩
            · obtain rfl := List.mem_singleton.1 hq
              obtain ⟨ad2, e2, hb, _⟩ := hrd.2 h0
              obtain rfl := Option.some.inj (e.symm.trans e2)
              exact ⟨hndq ad e h0, Nat.lt_of_lt_of_le hb h56.size⟩
          rcases hor7 with h | h
          · exact hblk.1 (h.symm.trans he)
          · have := Option.some.inj (h.symm.trans he)
            omega
      rw [hO.len] at hap
      clear hb5 hrd hcap had hO ht h56 hwb hlow hr6 hsrc hrow7 hk7 hor7 hown hr p0 p1 p2 p3 HB
      go_wp2_with (at_builtin; refine wpList_append_run rfl (.tmp 13) (.tmp 20) _ rfl rfl rfl hap ?_)
      go_roundw
      case rel => exact ⟨k + 1, A7, c7, _, HLT.out, rfl, by go_num, HN⟩
      case measure => have := HLT.out; simp [intOf]; omega
    · obtain rfl : k = l.length := by omega
      go_wp2
      go_ret
      exact ⟨A', c', O, by rw [hr.out.len]; rfl, hr.out⟩
end Go.Proofs.YtgjcofoicnnnhaaDoor

/- The laws of Store: heavy, of one list. -/
namespace Go.Proofs.YtgjcofoicnnnhaaDoor
open Go.RowKit
set_option maxRecDepth 20000

def heavyM (z zb bl : Int) (l : List Pv) : Bool := !smallB z zb bl || decide (30 < l.length) || l.any (fun p => decide (200 < p.da.length))
theorem heavy1_any (X : Nat → Prop) (w : World) (z zb bl rs : Int) (A : Option Addr) (c g : Nat) (l : List Pv) (hp : PutsAt X w A l) (hg : Blk w g 27 #[.int .u8 0, .slice A l.length c, .int .i64 0]) :
    Calls Tryd.prog 22 #[.agg #[.int .i64 z, .int .i64 zb, .int .i64 bl, .int .i64 rs], .slice (some ⟨g, 0, none⟩) 1 1] w (Makes (.bool (heavyM z zb bl l)) w) := by
  have HS := Lib.hid (fun u => small_any z zb bl rs u)
  have HP := Lib.hid hp
  have HG := Lib.hid hg
  cases hs : smallB z zb bl with
  | false =>
    rw [hs] at HS
    have HE : Hid (heavyM z zb bl l = true) := by unfold Hid heavyM; rw [hs]; rfl
    clear hp hg hs
    go_enter Tryd.func22, Tryd.ntmps22
    go_wp2_with (fail)
    refine (HS.out _).mono ?_
    rintro e w2 ⟨rfl, hb2⟩
    have HB : Hid (Below w.heap.size w w2) := ((Below.refl w.heap.size w).alloc (Nat.le_refl _) _).trans (hb2.mono (by simp))
    clear hb2
    go_wp2
    go_ret
    exact ⟨by rw [HE.out]; rfl, HB.out⟩
  | true =>
    rw [hs] at HS
    by_cases hlen : 30 < l.length
    · have HE : Hid (heavyM z zb bl l = true) := by unfold Hid heavyM; rw [hs, decide_eq_true hlen]; rfl
      clear hp hg hs
      have hlen' : (30 : Int) < l.length := by omega
      go_enter Tryd.func22, Tryd.ntmps22
      go_wp2_with (fail)
      refine (HS.out _).mono ?_
      rintro e w2 ⟨rfl, hb2⟩
      have hB : Below w.heap.size w w2 := ((Below.refl w.heap.size w).alloc (Nat.le_refl _) _).trans (hb2.mono (by simp))
      have HB := Lib.hid hB
      have g1 : w2.cell? ⟨g, 1, none⟩ = some (.slice A l.length c) := (HG.out.below hB HG.out.lt).cell 1
      clear hb2 hB
      go_wp2_with (fail)
      go_loopw [6] (fun i wr => i = .int .i64 0 ∧ wr = w2) (fun _ _ => 0)
      case atStart => exact ⟨rfl, rfl⟩
      case round =>
        obtain ⟨rfl, rfl⟩ := hrel
        go_wp2
        go_ret
        exact ⟨by rw [HE.out]; rfl, HB.out⟩
    · have HE : Hid (heavyM z zb bl l = l.any (fun p => decide (200 < p.da.length))) := by unfold Hid heavyM; rw [hs, decide_eq_false hlen]; rfl
      have hlen' : ¬ (30 : Int) < l.length := by omega
      clear hp hg hs
      go_enter Tryd.func22, Tryd.ntmps22
      go_wp2_with (fail)
      refine (HS.out _).mono ?_
      rintro e w2 ⟨rfl, hb2⟩
      have hB : Below w.heap.size w w2 := ((Below.refl w.heap.size w).alloc (Nat.le_refl _) _).trans (hb2.mono (by simp))
      have HB := Lib.hid hB
      have g1 : w2.cell? ⟨g, 1, none⟩ = some (.slice A l.length c) := (HG.out.below hB HG.out.lt).cell 1
      have HP2 := Lib.hid (HP.out.below hB)
      clear hb2 hB
      go_wp2_with (fail)
      go_loopw [6] (fun i wr => wr = w2 ∧ ((i = .int .i64 0) ∨ (i = .int .i64 1 ∧ Hid (l.any (fun p => decide (200 < p.da.length)) = false)))) (fun i _ => 1 - (intOf i).toNat)
      case atStart => exact ⟨rfl, .inl rfl⟩
      case round =>
        obtain ⟨rfl, rfl | ⟨rfl, hno⟩⟩ := hrel
        · go_wp2_with (fail)
          go_loopw [7] (fun i wr2 => ∃ k : Nat, k ≤ l.length ∧ i = .int .i64 k ∧ wr2 = wr ∧ Hid (∀ j, j < k → ¬ 200 < (l.getD j pv0).da.length)) (fun i _ => l.length - (intOf i).toNat)
          case atStart => exact ⟨0, Nat.zero_le _, rfl, rfl, fun j hj => by omega⟩
          case round =>
            obtain ⟨k, hk, rfl, rfl, hno⟩ := hrel
            by_cases hlt : k < l.length
            · obtain ⟨ad, Ad, cd, rfl, hat⟩ := HP2.out k hlt
              have p3 := hat.c3
              have hm := getD_mem (d := pv0) hlt
              have HLT := Lib.hid hlt
              by_cases hbig : 200 < (l.getD k pv0).da.length
              · have HA : Hid (l.any (fun p => decide (200 < p.da.length)) = true) := List.any_eq_true.2 ⟨_, hm, decide_eq_true hbig⟩
                have hbig' : (200 : Int) < (l.getD k pv0).da.length := by omega
                clear hat hm hno hbig
                generalize (l.getD k pv0).da.length = dn at *
                go_wp2
                go_ret
                exact ⟨by rw [HE.out, HA.out]; rfl, HB.out⟩
              · have HN : Hid (∀ j, j < k + 1 → ¬ 200 < (l.getD j pv0).da.length) := fun j hj => by
                  rcases Nat.lt_or_ge j k with h | h
                  · exact hno.out j h
                  · rw [show j = k by omega]; exact hbig
                have hbig' : ¬ (200 : Int) < (l.getD k pv0).da.length := by omega
                clear hat hm hno hbig
                generalize (l.getD k pv0).da.length = dn at *
                go_wp2
                go_roundw
                case rel => exact ⟨k + 1, HLT.out, by go_num, by first | rfl | trivial, HN⟩
                case measure => have := HLT.out; simp [intOf]; omega
            · obtain rfl : k = l.length := by omega
              have HA : Hid (l.any (fun p => decide (200 < p.da.length)) = false) := by
                apply Bool.eq_false_iff.2
                intro h
                obtain ⟨p, hp, hd⟩ := List.any_eq_true.1 h
                obtain ⟨j, hj, rfl⟩ := List.getElem_of_mem hp
                have := hno.out j hj
                rw [List.getD_eq_getElem?_getD, List.getElem?_eq_getElem hj] at this
                exact this (of_decide_eq_true hd)
              clear hno
              go_wp2
              go_roundw
              case rel => exact ⟨by first | rfl | trivial, .inr ⟨by go_num, HA⟩⟩
              case measure => simp [intOf]
        · go_wp2
          go_ret
          exact ⟨by rw [HE.out, hno.out]; rfl, HB.out⟩
end Go.Proofs.YtgjcofoicnnnhaaDoor

/- The laws of Store: Heavy; own bytes. -/
namespace Go.Proofs.YtgjcofoicnnnhaaDoor
open Go.RowKit
set_option maxRecDepth 20000

theorem heavy_any (X : Nat → Prop) (w : World) (z zb bl rs : Int) (A : Option Addr) (c g : Nat) (l : List Pv) (hp : PutsAt X w A l) (hg : Blk w g 27 #[.int .u8 0, .slice A l.length c, .int .i64 0]) :
    Calls Tryd.prog 7 #[.agg #[.int .i64 z, .int .i64 zb, .int .i64 bl, .int .i64 rs], .slice (some ⟨g, 0, none⟩) 1 1] w (Makes (.int .i64 (if heavyM z zb bl l then 1 else 0)) w) := by
  have hb : Below w.heap.size w (w.alloc (.cells #[.int .i64 z, .int .i64 zb, .int .i64 bl, .int .i64 rs] 23)) := (Below.refl _ _).alloc (Nat.le_refl _) _
  have HH := Lib.hid (heavy1_any X _ z zb bl rs A c g l (hp.below hb) (hg.below hb hg.lt))
  have HB := Lib.hid hb
  clear hp hg hb
  generalize heavyM z zb bl l = v at *
  cases v
  all_goals
    go_enter Tryd.func7, Tryd.ntmps7
    go_wp2_with (fail)
    refine HH.out.mono ?_
    rintro e w2 ⟨rfl, hb2⟩
    have HB2 : Hid (Below w.heap.size w w2) := HB.out.trans (hb2.mono HB.out.size)
    clear hb2 HH
    go_wp2_with (fail)
    refine (truth_any _ _).mono ?_
    rintro e w' ⟨rfl, rfl⟩
    go_wp2
    go_ret
    exact ⟨rfl, HB2.out⟩
end Go.Proofs.YtgjcofoicnnnhaaDoor

/- The laws of Store: a list of calls; heavy, of any list. -/
namespace Go.Proofs.YtgjcofoicnnnhaaDoor
open Go.ChangeShapes Go.WideShapes Go.ChangeAt Go.RowKit
set_option maxRecDepth 20000

/-- A call: its kind, what it puts, its zone. -/
structure Opv where
  k : Int
  l : List Pv
  z : Int
def op0 : Opv := ⟨0, [], 0⟩
instance : Inhabited Opv := ⟨op0⟩
structure SOpAt (X : Nat → Prop) (w : World) (a : Addr) (o : Opv) (Ad : Option Addr) (cd : Nat) : Prop where
  x : X a.block
  c0 : w.cell? a = some (.int .u8 o.k)
  c1 : w.cell? ⟨a.block, a.off + 1, none⟩ = some (.slice Ad o.l.length cd)
  c2 : w.cell? ⟨a.block, a.off + 2, none⟩ = some (.int .i64 o.z)
  pa : PutsAt X w Ad o.l
  cap : o.l.length ≤ cd
structure OpIn (o : Opv) : Prop where
  k : 0 ≤ o.k ∧ o.k ≤ 255
  l : ∀ p ∈ o.l, PvIn p
  z : -9223372036854775808 ≤ o.z ∧ o.z ≤ 9223372036854775807
def SOpsAt (X : Nat → Prop) (w : World) (A : Option Addr) (l : List Opv) : Prop := ∀ i, i < l.length → ∃ ad Ad cd, A = some ad ∧ SOpAt X w (ad.add (i * 3)) (l.getD i op0) Ad cd
section
variable {X X' S : Nat → Prop} {w w' : World} {a : Addr} {o : Opv} {Ad A : Option Addr} {cd : Nat} {l : List Opv}
theorem SOpAt.kp (h : SOpAt X w a o Ad cd) (hk : Kp S w w') (hs : ∀ b, S b → ¬ X b) : SOpAt X w' a o Ad cd := by
  have nx : ∀ b, X b → ¬ S b := fun b hx hs' => hs b hs' hx
  exact ⟨h.x, hk.cell h.c0 (nx _ h.x), hk.cell h.c1 (nx _ h.x), hk.cell h.c2 (nx _ h.x), h.pa.kp hk hs, h.cap⟩
theorem SOpsAt.kp (h : SOpsAt X w A l) (hk : Kp S w w') (hs : ∀ b, S b → ¬ X b) : SOpsAt X w' A l := fun i hi => by
  obtain ⟨ad, Ad, cd, e, hp⟩ := h i hi
  exact ⟨ad, Ad, cd, e, hp.kp hk hs⟩
theorem SOpsAt.kx (h : SOpsAt X w A l) (hk : Kp (fun b => ¬ X b) w w') : SOpsAt X w' A l := h.kp hk (fun _ h => h)
theorem SOpsAt.below (h : SOpsAt X w A l) (hb : Below w.heap.size w w') : SOpsAt X w' A l := h.kp (S := fun _ => False) (Kp.of_below hb) (fun _ e => e.elim)
end

theorem sop_cellsOf : Tryd.prog.cellsOf 27 = 3 ∧ Tryd.prog.cellsOf 5 = 1 ∧ Tryd.prog.cellsOf 24 = 1 ∧ Tryd.prog.cellsOf 3 = 1 := by
  refine ⟨?_, ?_, ?_, ?_⟩ <;> kernel_rfl

section
variable {H : Type} {enc : TypeId × Value → H} {w : World} {base : Nat} {sp : Nat → Bool} {held : Bool}
theorem sop_cells {n : Nat} {cs : List Value} {x : DataW H × List MemPlace} (h : DataW.trod enc Tryd.prog w base sp held n 27 cs = some x) :
    ∃ (o : Opv) (A : Option Addr) (c : Nat), cs = [.int .u8 o.k, .slice A o.l.length c, .int .i64 o.z] ∧ OpIn o ∧ PutsAt (fun b => b < w.heap.size) w A o.l ∧ o.l.length ≤ c := by
  obtain ⟨k3, ku, ks, ki⟩ := sop_cellsOf
  obtain ⟨xs, n1, rfl, rfl, hl, hxl, hf⟩ := DataW.trod_struct Tryd.underlying27 h
  rw [k3] at hl
  match cs, hl with
  | [v0, v1, v2], _ =>
    match xs, hxl with
    | [y0, y1, y2], _ =>
      have g0 := hf 0 _ rfl
      have g1 := hf 1 _ rfl
      have g2 := hf 2 _ rfl
      simp [ku, ks, ki] at g0 g1 g2
      obtain ⟨k, e0, _, wk⟩ := DataW.trod_int Tryd.underlying5 g0
      obtain ⟨A, c, l, e1, hp, hc, hi⟩ := puts_trod g1
      obtain ⟨z, e2, _, wz⟩ := DataW.trod_int Tryd.underlying3 g2
      simp only [List.cons.injEq, and_true] at e0 e1 e2
      exact ⟨⟨k, l, z⟩, A, c, by rw [e0, e1, e2], ⟨wfo_u8 wk, hi, wfo_i64 wz⟩, hp, hc⟩

theorem sopen_oplist {b0 : Nat} {v : Value} {d : DataW H} {ps : List MemPlace} (hval : Value.okWide Tryd.prog w .any b0 28 v) (h : DataW.Trod enc Tryd.prog w base sp held 28 v d ps) :
    ∃ A c l, v = .slice A (List.length l) c ∧ SOpsAt (fun b => b < w.heap.size) w A l ∧ l.length ≤ c ∧ ∀ o ∈ l, OpIn o := by
  obtain ⟨A, len, cap, rfl⟩ := okWide_slice Tryd.underlying28 hval
  obtain ⟨fuel, hf⟩ := h
  rcases Deep.open_slice Tryd.underlying28 hf with ⟨hcs, _⟩ | ⟨a, len', cap', m, n, D, Pq, hcs, _, hl, hm, hmm, _, hx⟩
  · simp only [Value.cells, List.cons.injEq, and_true] at hcs
    exact ⟨none, 0, [], hcs, fun i hi => by simp at hi, Nat.zero_le _, fun p hp => by cases hp⟩
  · simp only [Value.cells, List.cons.injEq, and_true] at hcs
    injection hcs with h1 h2 h3
    subst h1 h2 h3
    have hlm : len ≤ m := by rw [hmm]; split <;> omega
    have hV : ∀ i, i < len → ∃ o : Opv, (∃ Ad cd, SOpAt (fun b => b < w.heap.size) w (a.add (i * 3)) o Ad cd) ∧ OpIn o := by
      intro i hi
      obtain ⟨cs', h1, h2⟩ := hx i (by omega)
      rw [sop_cellsOf.1] at h1
      obtain ⟨_, hlen, hcell⟩ := World.cells?_some h1
      obtain ⟨o, Ad, cd, rfl, hk, hp, hc⟩ := sop_cells h2
      have c0 : w.cell? (a.add (i * 3)) = some (.int .u8 o.k) := hcell 0 (by omega)
      refine ⟨o, ⟨Ad, cd, World.block_lt_of_cell? w _ c0, c0, ?_, ?_, hp, hc⟩, hk⟩
      · exact hcell 1 (by omega)
      · exact hcell 2 (by omega)
    obtain ⟨f, hf⟩ := Deep.choose_lt hV
    have hlen : ((List.range len).map f).length = len := by simp
    have hget : ∀ i, i < len → ((List.range len).map f).getD i op0 = f i := fun i hi => by simp [List.getD_eq_getElem?_getD, hi]
    refine ⟨some a, cap, (List.range len).map f, by rw [hlen], fun i hi => ?_, by rw [hlen]; exact hl, fun p hp => ?_⟩
    · rw [hlen] at hi
      rw [hget i hi]
      obtain ⟨Ad, cd, h⟩ := (hf i hi).1
      exact ⟨a, Ad, cd, rfl, h⟩
    · obtain ⟨i, hi, rfl⟩ := List.mem_map.1 hp
      exact (hf i (List.mem_range.1 hi)).2
end

def heavy1M (o : Opv) : Bool := decide (30 < o.l.length) || o.l.any (fun p => decide (200 < p.da.length))
def heavysM (z zb bl : Int) (l : List Opv) : Bool := !smallB z zb bl || decide (40 < l.length) || l.any heavy1M
theorem heavys1_any (X : Nat → Prop) (w : World) (z zb bl rs : Int) (A : Option Addr) (c : Nat) (l : List Opv) (hp : SOpsAt X w A l) :
    Calls Tryd.prog 22 #[.agg #[.int .i64 z, .int .i64 zb, .int .i64 bl, .int .i64 rs], .slice A l.length c] w (Makes (.bool (heavysM z zb bl l)) w) := by
  have HS := Lib.hid (fun u => small_any z zb bl rs u)
  have HP := Lib.hid hp
  cases hs : smallB z zb bl with
  | false =>
    rw [hs] at HS
    have HE : Hid (heavysM z zb bl l = true) := by unfold Hid heavysM; rw [hs]; rfl
    clear hp hs
    go_enter Tryd.func22, Tryd.ntmps22
    go_wp2_with (fail)
    refine (HS.out _).mono ?_
    rintro e w2 ⟨rfl, hb2⟩
    have HB : Hid (Below w.heap.size w w2) := ((Below.refl w.heap.size w).alloc (Nat.le_refl _) _).trans (hb2.mono (by simp))
    clear hb2
    go_wp2
    go_ret
    exact ⟨by rw [HE.out]; rfl, HB.out⟩
  | true =>
    rw [hs] at HS
    by_cases hlen : 40 < l.length
    · have HE : Hid (heavysM z zb bl l = true) := by unfold Hid heavysM; rw [hs, decide_eq_true hlen]; rfl
      clear hp hs
      have hlen' : (40 : Int) < l.length := by omega
      go_enter Tryd.func22, Tryd.ntmps22
      go_wp2_with (fail)
      refine (HS.out _).mono ?_
      rintro e w2 ⟨rfl, hb2⟩
      have HB : Hid (Below w.heap.size w w2) := ((Below.refl w.heap.size w).alloc (Nat.le_refl _) _).trans (hb2.mono (by simp))
      clear hb2
      go_wp2
      go_ret
      exact ⟨by rw [HE.out]; rfl, HB.out⟩
    · have HE : Hid (heavysM z zb bl l = l.any heavy1M) := by unfold Hid heavysM; rw [hs, decide_eq_false hlen]; rfl
      have hlen' : ¬ (40 : Int) < l.length := by omega
      clear hp hs
      go_enter Tryd.func22, Tryd.ntmps22
      go_wp2_with (fail)
      refine (HS.out _).mono ?_
      rintro e w2 ⟨rfl, hb2⟩
      have hB : Below w.heap.size w w2 := ((Below.refl w.heap.size w).alloc (Nat.le_refl _) _).trans (hb2.mono (by simp))
      have HB := Lib.hid hB
      have HP2 := Lib.hid (HP.out.below hB)
      clear hb2 hB
      go_wp2_with (fail)
      go_loopw [6] (fun i wr => ∃ k : Nat, k ≤ l.length ∧ i = .int .i64 k ∧ wr = w2 ∧ Hid (∀ j, j < k → heavy1M (l.getD j op0) = false)) (fun i _ => l.length - (intOf i).toNat)
      case atStart => exact ⟨0, Nat.zero_le _, rfl, rfl, fun j hj => by omega⟩
      case round =>
        obtain ⟨k, hk, rfl, rfl, hno⟩ := hrel
        by_cases hlt : k < l.length
        · obtain ⟨ad, Ad, cd, rfl, hat⟩ := HP2.out k hlt
          have p1 := hat.c1
          have HPA := Lib.hid hat.pa
          have HM := Lib.hid (getD_mem (d := op0) hlt)
          have HLT := Lib.hid hlt
          have HN : Hid (heavy1M (l.getD k op0) = false → ∀ j, j < k + 1 → heavy1M (l.getD j op0) = false) := fun h j hj => by
            rcases Nat.lt_or_ge j k with h' | h'
            · exact hno.out j h'
            · rw [show j = k by omega]; exact h
          clear hat hno
          generalize l.getD k op0 = o at *
          obtain ⟨ok, ol, oz⟩ := o
          simp only at p1 HPA
          by_cases hbig : 30 < ol.length
          · have HA : Hid (l.any heavy1M = true) := List.any_eq_true.2 ⟨_, HM.out, by unfold heavy1M; rw [decide_eq_true hbig]; rfl⟩
            have hbig' : (30 : Int) < ol.length := by omega
            clear hbig
            generalize ol.length = dn at *
            go_wp2
            go_ret
            exact ⟨by rw [HE.out, HA.out]; rfl, HB.out⟩
          · have hbig' : ¬ (30 : Int) < ol.length := by omega
            have HO : Hid (heavy1M ⟨ok, ol, oz⟩ = ol.any (fun p => decide (200 < p.da.length))) := by unfold Hid heavy1M; rw [decide_eq_false hbig]; rfl
            clear hbig
            go_wp2_with (fail)
            go_loopw [7] (fun i wr2 => ∃ k : Nat, k ≤ ol.length ∧ i = .int .i64 k ∧ wr2 = wr ∧ Hid (∀ j, j < k → ¬ 200 < (ol.getD j pv0).da.length)) (fun i _ => ol.length - (intOf i).toNat)
            case atStart => exact ⟨0, Nat.zero_le _, rfl, rfl, fun j hj => by omega⟩
            case round =>
              obtain ⟨k2, hk2, rfl, rfl, hno⟩ := hrel
              by_cases hlt : k2 < ol.length
              · obtain ⟨ad2, Ad2, cd2, rfl, hat⟩ := HPA.out k2 hlt
                have p3 := hat.c3
                have hm := getD_mem (d := pv0) hlt
                have HLT2 := Lib.hid hlt
                by_cases hbig : 200 < (ol.getD k2 pv0).da.length
                · have HA : Hid (l.any heavy1M = true) := List.any_eq_true.2 ⟨_, HM.out, by rw [HO.out]; exact List.any_eq_true.2 ⟨_, hm, decide_eq_true hbig⟩⟩
                  have hbig' : (200 : Int) < (ol.getD k2 pv0).da.length := by omega
                  clear hat hm hno hbig
                  generalize (ol.getD k2 pv0).da.length = dn at *
                  go_wp2
                  go_ret
                  exact ⟨by rw [HE.out, HA.out]; rfl, HB.out⟩
                · have HN2 : Hid (∀ j, j < k2 + 1 → ¬ 200 < (ol.getD j pv0).da.length) := fun j hj => by
                    rcases Nat.lt_or_ge j k2 with h | h
                    · exact hno.out j h
                    · rw [show j = k2 by omega]; exact hbig
                  have hbig' : ¬ (200 : Int) < (ol.getD k2 pv0).da.length := by omega
                  clear hat hm hno hbig
                  generalize (ol.getD k2 pv0).da.length = dn at *
                  go_wp2
                  go_roundw
                  case rel => exact ⟨k2 + 1, HLT2.out, by go_num, by first | rfl | trivial, HN2⟩
                  case measure => have := HLT2.out; simp [intOf]; omega
              · obtain rfl : k2 = ol.length := by omega
                have HA : Hid (heavy1M ⟨ok, ol, oz⟩ = false) := by
                  unfold Hid
                  rw [HO.out]
                  apply Bool.eq_false_iff.2
                  intro h
                  obtain ⟨p, hp, hd⟩ := List.any_eq_true.1 h
                  obtain ⟨j, hj, rfl⟩ := List.getElem_of_mem hp
                  have := hno.out j hj
                  rw [List.getD_eq_getElem?_getD, List.getElem?_eq_getElem hj] at this
                  exact this (of_decide_eq_true hd)
                have HNN := Lib.hid (HN.out HA.out)
                clear hno
                go_wp2
                go_roundw
                case rel => exact ⟨k + 1, HLT.out, by go_num, by first | rfl | trivial, HNN⟩
                case measure => have := HLT.out; simp [intOf]; omega
        · obtain rfl : k = l.length := by omega
          have HA : Hid (l.any heavy1M = false) := by
            apply Bool.eq_false_iff.2
            intro h
            obtain ⟨p, hp, hd⟩ := List.any_eq_true.1 h
            obtain ⟨j, hj, rfl⟩ := List.getElem_of_mem hp
            have := hno.out j hj
            rw [List.getD_eq_getElem?_getD, List.getElem?_eq_getElem hj, Option.getD_some, hd] at this
            cases this
          clear hno
          go_wp2
          go_ret
          exact ⟨by rw [HE.out, HA.out]; rfl, HB.out⟩

theorem heavys_any (X : Nat → Prop) (w : World) (z zb bl rs : Int) (A : Option Addr) (c : Nat) (l : List Opv) (hp : SOpsAt X w A l) :
    Calls Tryd.prog 7 #[.agg #[.int .i64 z, .int .i64 zb, .int .i64 bl, .int .i64 rs], .slice A l.length c] w (Makes (.int .i64 (if heavysM z zb bl l then 1 else 0)) w) := by
  have hb : Below w.heap.size w (w.alloc (.cells #[.int .i64 z, .int .i64 zb, .int .i64 bl, .int .i64 rs] 23)) := (Below.refl _ _).alloc (Nat.le_refl _) _
  have HH := Lib.hid (heavys1_any X _ z zb bl rs A c l (hp.below hb))
  have HB := Lib.hid hb
  clear hp hb
  generalize heavysM z zb bl l = v at *
  cases v
  all_goals
    go_enter Tryd.func7, Tryd.ntmps7
    go_wp2_with (fail)
    refine HH.out.mono ?_
    rintro e w2 ⟨rfl, hb2⟩
    have HB2 : Hid (Below w.heap.size w w2) := HB.out.trans (hb2.mono HB.out.size)
    clear hb2 HH
    go_wp2_with (fail)
    refine (truth_any _ _).mono ?_
    rintro e w' ⟨rfl, rfl⟩
    go_wp2
    go_ret
    exact ⟨rfl, HB2.out⟩
theorem heavys_false {z zb bl : Int} {l : List Opv} (h : heavysM z zb bl l = false) : smallB z zb bl = true ∧ l.length ≤ 40 ∧ ∀ o ∈ l, o.l.length ≤ 30 ∧ ∀ p ∈ o.l, p.da.length ≤ 200 := by
  unfold heavysM at h
  simp only [Bool.or_eq_false_iff, Bool.not_eq_false', decide_eq_false_iff_not, List.any_eq_false] at h
  refine ⟨h.1.1, by omega, fun o ho => ?_⟩
  have h1 := h.2 o ho
  unfold heavy1M at h1
  simp only [Bool.or_eq_true, not_or, decide_eq_true_eq, List.any_eq_true, not_exists, not_and] at h1
  exact ⟨by omega, fun p hp => by have := h1.2 p hp; omega⟩
end Go.Proofs.YtgjcofoicnnnhaaDoor

/- A shape among the arguments, opened. -/
namespace Go.Proofs.YtgjcofoicnnnhaaDoor
open Go.ChangeShapes Go.WideShapes Go.ChangeAt Go.RowKit
set_option maxRecDepth 20000

theorem wf_i64 {n : Int} (h : (Lit.int .i64 n).wf = true) : -9223372036854775808 ≤ n ∧ n ≤ 9223372036854775807 := by
  simpa [Lit.wf, IntKind.min, IntKind.max, IntKind.signed, IntKind.bits] using h

theorem open_shape {H : Type} {enc : TypeId × Value → H} {W : World} {base : Nat} {sp : Nat → Bool} {held : Bool} {v : Value} {d : DataW H} {p : List MemPlace} {b : Nat}
    (hv : Value.okWide Tryd.prog W .any b 23 v) (h : DataW.Trod enc Tryd.prog W base sp held 23 v d p) :
    ∃ z zb bl rs : Int, v = .agg #[.int .i64 z, .int .i64 zb, .int .i64 bl, .int .i64 rs] ∧ (-9223372036854775808 ≤ z ∧ z ≤ 9223372036854775807) ∧ (-9223372036854775808 ≤ bl ∧ bl ≤ 9223372036854775807) ∧ (-9223372036854775808 ≤ rs ∧ rs ≤ 9223372036854775807) := by
  obtain ⟨v0, v1, v2, v3, y0, y1, y2, y3, n, rfl, _, _, h0, h1, h2, h3⟩ := Go.Joins.open_agg4 Tryd.underlying23 (by kernel_rfl) (by kernel_rfl) hv h
  obtain ⟨a0, e0, _, w0⟩ := DataW.trod_int Tryd.underlying3 h0
  obtain ⟨a1, e1, _, _⟩ := DataW.trod_int Tryd.underlying3 h1
  obtain ⟨a2, e2, _, w2⟩ := DataW.trod_int Tryd.underlying3 h2
  obtain ⟨a3, e3, _, w3⟩ := DataW.trod_int Tryd.underlying3 h3
  injection e0 with e0
  injection e1 with e1
  injection e2 with e2
  injection e3 with e3
  subst e0 e1 e2 e3
  exact ⟨a0, a1, a2, a3, rfl, wf_i64 w0, wf_i64 w2, wf_i64 w3⟩

theorem wf_u8 {n : Int} (h : (Lit.int .u8 n).wf = true) : 0 ≤ n ∧ n ≤ 255 := by
  simpa [Lit.wf, IntKind.min, IntKind.max, IntKind.signed, IntKind.bits] using h

section
variable {H : Type} {enc : TypeId × Value → H} {P : Program} {w : World} {base : Nat} {sp : Nat → Bool} {held : Bool}
/-- A list of numbers among the arguments. -/
theorem open_intlist {t e : TypeId} {k : IntKind} {b0 : Nat} {r : Reach} {v : Value} {d : DataW H} {ps : List MemPlace} (ht : P.underlying t = some (.slice e)) (he : P.underlying e = some (.int k)) (hc : P.cellsOf e = 1)
    (hval : Value.okWide P w r b0 t v) (h : DataW.Trod enc P w base sp held t v d ps) : ∃ A c l, v = .slice A (List.length l) c ∧ Reads w w.heap.size 1 A l.length (nums k l) ∧ l.length ≤ c ∧ c ≤ maxLen ∧ ∀ x ∈ l, (Lit.int k x).wf = true := by
  obtain ⟨A, len, cap, rfl⟩ := okWide_slice ht hval
  obtain ⟨fuel, hf⟩ := h
  rcases Go.ChangeShapes.open_ints ht he hc hf with ⟨hcs, _⟩ | ⟨a, len', cap', zs, hcs, _, hl, hm, hz, _, hx, hwf⟩
  · simp only [Value.cells, List.cons.injEq, and_true] at hcs
    injection hcs with h1 h2 h3
    subst h1 h2 h3
    exact ⟨none, 0, [], rfl, Reads.none_, Nat.zero_le _, Nat.zero_le _, fun x hx => by cases hx⟩
  · simp only [Value.cells, List.cons.injEq, and_true] at hcs
    injection hcs with h1 h2 h3
    subst h1 h2 h3
    have hlz : len ≤ zs.length := by rw [hz]; split <;> omega
    have hlen : (zs.take len).length = len := by rw [List.length_take]; omega
    refine ⟨some a, cap, zs.take len, by rw [hlen], ⟨by rw [nums_length]; omega, fun hn => ?_⟩, by rw [hlen]; exact hl, hm, fun x hx' => hwf x (List.mem_of_mem_take hx')⟩
    have hc0 := hx 0 (by omega)
    refine ⟨a, rfl, by have := World.block_lt_of_cell? w _ hc0; rw [block_of_add] at this; exact this, fun j u hu => ?_⟩
    have hj : j < len := by
      have := (List.getElem?_eq_some_iff.mp hu).1
      rw [nums_length, hlen] at this
      exact this
    rw [nums_get k _ j (by rw [hlen]; exact hj)] at hu
    injection hu with hu
    rw [hx j (by omega), ← hu]
    simp [List.getD_eq_getElem?_getD, hj]

/-- A list of pairs of numbers in memory. -/
def PairsAt (w : World) (B : Nat) (A : Option Addr) (k0 k1 : IntKind) (l : List (Int × Int)) : Prop := ∀ i, i < l.length → ∃ ad, A = some ad ∧ ad.block < B ∧ w.cell? (ad.add (i * 2)) = some (.int k0 (l.getD i (0, 0)).1) ∧ w.cell? (ad.add (i * 2 + 1)) = some (.int k1 (l.getD i (0, 0)).2)
theorem PairsAt.below {w w' : World} {B : Nat} {A : Option Addr} {k0 k1 : IntKind} {l : List (Int × Int)} (h : PairsAt w B A k0 k1 l) (hb : Below B w w') : PairsAt w' B A k0 k1 l := fun i hi => by
  obtain ⟨ad, e, hbl, h0, h1⟩ := h i hi
  exact ⟨ad, e, hbl, (hb.cell (by rw [block_of_add]; exact hbl)).trans h0, (hb.cell (by rw [block_of_add]; exact hbl)).trans h1⟩

theorem open_pairlist {t e : TypeId} {f0 f1 : Field} {k0 k1 : IntKind} {b0 : Nat} {r : Reach} {v : Value} {d : DataW H} {ps : List MemPlace} (ht : P.underlying t = some (.slice e)) (he : P.underlying e = some (.struct #[f0, f1]))
    (ce : P.cellsOf e = 2) (o0 : f0.offset = 0) (o1 : f1.offset = 1) (c0 : P.cellsOf f0.type = 1) (c1 : P.cellsOf f1.type = 1) (u0 : P.underlying f0.type = some (.int k0)) (u1 : P.underlying f1.type = some (.int k1))
    (hval : Value.okWide P w r b0 t v) (h : DataW.Trod enc P w base sp held t v d ps) :
    ∃ A c l, v = .slice A (List.length l) c ∧ PairsAt w w.heap.size A k0 k1 l ∧ l.length ≤ c ∧ c ≤ maxLen ∧ ∀ i, i < l.length → (Lit.int k0 (l.getD i (0, 0)).1).wf = true ∧ (Lit.int k1 (l.getD i (0, 0)).2).wf = true := by
  obtain ⟨A, len, cap, rfl⟩ := okWide_slice ht hval
  obtain ⟨fuel, hf⟩ := h
  rcases Deep.open_slice_pairs ht he ce o0 o1 c0 c1 hf with ⟨hcs, _⟩ | ⟨a, len', cap', m, n, V0, V1, D0, D1, P0, P1, hcs, _, hl, hm, hmm, _, hx⟩
  · simp only [Value.cells, List.cons.injEq, and_true] at hcs
    injection hcs with h1 h2 h3
    subst h1 h2 h3
    exact ⟨none, 0, [], rfl, fun i hi => by simp at hi, Nat.zero_le _, Nat.zero_le _, fun i hi => by simp at hi⟩
  · simp only [Value.cells, List.cons.injEq, and_true] at hcs
    injection hcs with h1 h2 h3
    subst h1 h2 h3
    have hlm : len ≤ m := by rw [hmm]; split <;> omega
    have hV : ∀ i, i < len → ∃ x : Int × Int, w.cell? (a.add (i * 2)) = some (.int k0 x.1) ∧ w.cell? (a.add (i * 2 + 1)) = some (.int k1 x.2) ∧ (Lit.int k0 x.1).wf = true ∧ (Lit.int k1 x.2).wf = true := by
      intro i hi
      obtain ⟨g0, g1, t0, t1⟩ := hx i (by omega)
      obtain ⟨n0, e0, _, w0⟩ := DataW.trod_int u0 t0
      obtain ⟨n1, e1, _, w1⟩ := DataW.trod_int u1 t1
      injection e0 with e0
      injection e1 with e1
      exact ⟨(n0, n1), by rw [g0, e0], by rw [g1, e1], w0, w1⟩
    obtain ⟨f, hf⟩ := Deep.choose_lt hV
    have hlen : ((List.range len).map f).length = len := by simp
    have hget : ∀ i, i < len → ((List.range len).map f).getD i (0, 0) = f i := fun i hi => by simp [List.getD_eq_getElem?_getD, hi]
    refine ⟨some a, cap, (List.range len).map f, by rw [hlen], fun i hi => ?_, by rw [hlen]; exact hl, hm, fun i hi => ?_⟩
    · rw [hlen] at hi
      obtain ⟨g0, g1, _, _⟩ := hf i hi
      rw [hget i hi]
      exact ⟨a, rfl, by have := World.block_lt_of_cell? w _ g0; rw [block_of_add] at this; exact this, g0, g1⟩
    · rw [hlen] at hi
      rw [hget i hi]
      exact ⟨(hf i hi).2.2.1, (hf i hi).2.2.2⟩
end
end Go.Proofs.YtgjcofoicnnnhaaDoor

/- The laws of Store: own bytes. -/
namespace Go.Proofs.YtgjcofoicnnnhaaDoor
open Go.RowKit
set_option maxRecDepth 20000

theorem lent_any (w : World) (A : Option Addr) (n c : Nat) (xs : List Int) (hr : Reads w w.heap.size 1 A n (nums .u8 xs)) (hn : n ≤ 100000000) :
    Calls Tryd.prog 15 #[.slice A n c] w (fun e w' => ∃ A' c', e = .returned (.slice A' n c') ∧ BRow w' w.heap.size A' c' xs ∧ Below w.heap.size w w') := by
  have hm : n = xs.length := by have := hr.1; rw [nums_length] at this; omega
  subst hm
  obtain ⟨i, hi, hz, hs, hb⟩ := info_parts u8_info
  have h0 : w.ownsRow w.heap.size 5 1 (.slice none 0 0) 0 [] := World.ownsRow_nil _ _ _ _
  obtain ⟨v', w', hrun, hown, hg, _⟩ := run_append_any (P := Tryd.prog) (w := w) w.heap.size 35 35 5 i _ 1 1 Tryd.underlying35 hi hz hs hb rfl (by omega) (.slice none 0 0) 0 [] h0 _ A xs.length c _ hr (fun u hu => by
    unfold nums at hu
    obtain ⟨x, _, rfl⟩ := List.mem_map.1 hu
    rfl) (by simp only [maxLen]; omega) (by omega) (Nat.le_refl _)
  obtain ⟨A', c', rfl⟩ := own_form hown
  rw [List.nil_append, Nat.zero_add] at hown
  rw [Nat.zero_add] at hrun
  have HF : Hid (∃ A2 c2, Ending.returned (.slice A' xs.length c') = .returned (.slice A2 xs.length c2) ∧ BRow w' w.heap.size A2 c2 xs ∧ Below w.heap.size w w') := ⟨A', c', rfl, hown, ⟨hg.os, hg.tape, hg.output, hg.size, fun b hb => hg.block b hb (by simp [Value.ownBlock])⟩⟩
  clear hr h0 hown hg hi hz hs hb
  go_enter Tryd.func15, Tryd.ntmps15
  go_wp2_with (at_builtin; refine wpList_append_run rfl (.tmp 4) (.tmp 5) _ rfl rfl rfl hrun ?_)
  go_ret
  exact HF.out
end Go.Proofs.YtgjcofoicnnnhaaDoor

/- The laws of Store: the chapter's example, plain. -/
namespace Go.Proofs.YtgjcofoicnnnhaaDoor
open Go.RowKit
set_option maxRecDepth 20000

def sh0 : Sh := ⟨6, 8, 64, 2⟩
def kn1 : Pv := ⟨1, 5, false, List.replicate 64 0⟩
def kn2 : Pv := ⟨1, 5, true, []⟩
def km1 : Int × StM := putM sh0 (newM sh0 (P0 sh0)) [kn1]
def km2 : Int × StM := putM sh0 km1.2 [kn2]
theorem known_1 : km1.1 = 0 := by decide +kernel
theorem known_2 : atOf km1.2.L (1, 5) = some (2, 1) := by decide +kernel
theorem known_3 : km2.1 = 0 := by decide +kernel
theorem known_4 : (km2.2.P.getD 2 pt0).bs.length = 3 := by decide +kernel
theorem known_6 : atOf km2.2.L (1, 5) = none := by decide +kernel
theorem known_5 : km2.2.seq = 2 := by decide +kernel
end Go.Proofs.YtgjcofoicnnnhaaDoor

/- The laws of Store: the chapter's example. -/
namespace Go.Proofs.YtgjcofoicnnnhaaDoor
open Go.RowKit
set_option maxRecDepth 20000

theorem putM_good {sh : Sh} (hok : sh.ok) {m : StM} (l : List Pv) (h : Good sh m) : Good sh (putM sh m l).2 := by
  unfold putM
  split
  · exact (putL_good hok _ h (Nat.le_refl _)).1
  · exact h
theorem known_any (w : World) : Calls Tryd.prog 8 #[] w (Makes (.bool true) w) := by
  have HN := Lib.hid (snew_any 6 8 64 2 w (by omega) (by omega))
  go_enter Tryd.func8, Tryd.ntmps8
  go_wp2_with (fail)
  refine HN.out.mono ?_
  rintro e w1 ⟨hy, _, hb1⟩
  obtain ⟨F, sh, e1, e2, e3, e4, rfl, hst, hown, hgood⟩ := hy (by decide)
  have hsh : sh = sh0 := by
    obtain ⟨a, b, c, d⟩ := sh
    simp only at e1 e2 e3 e4
    unfold sh0
    congr 1 <;> omega
  subst hsh
  have H1 := Lib.hid (And.intro hst (And.intro hgood hb1))
  clear hy e1 e2 e3 e4 hst hown hgood hb1
  obtain ⟨cs, hcs⟩ : ∃ cs, (fillv 0 64 0).toArray = cs := ⟨_, rfl⟩
  have hmk : ∀ u : World, (Instr.makeSlice 35 (.int .i64 64) (.int .i64 64)).run Tryd.prog u = .ok (.slice (some ⟨u.heap.size, 0, none⟩) 64 64) (u.alloc (.cells cs 5)) := fun u => by rw [← hcs]; exact run_make_u8 64 (by omega) u
  have hcs2 : Hid (cs = (nums .u8 (List.replicate 64 0)).toArray) := by unfold Hid; rw [← hcs]; simp [fillv, nums]
  clear hcs
  have hP : Hid (∃ X : Nat → Prop, (∀ b, b < w.heap.size → X b) ∧ StoreIs X ((w1.alloc (.cells cs 5)).alloc (.cells #[.int .u32 1, .int .u64 5, .bool false, .slice (some ⟨w1.heap.size, 0, none⟩) 64 64] 37)) F sh0 0 (newM sh0 (P0 sh0)) ∧
      PutsAt X ((w1.alloc (.cells cs 5)).alloc (.cells #[.int .u32 1, .int .u64 5, .bool false, .slice (some ⟨w1.heap.size, 0, none⟩) 64 64] 37)) (some ⟨w1.heap.size + 1, 0, none⟩) [kn1] ∧ Below w.heap.size w ((w1.alloc (.cells cs 5)).alloc (.cells #[.int .u32 1, .int .u64 5, .bool false, .slice (some ⟨w1.heap.size, 0, none⟩) 64 64] 37))) := by
    have hb1 : Below w1.heap.size w1 (w1.alloc (.cells cs 5)) := (Below.refl _ _).alloc (Nat.le_refl _) _
    have hb2 : Below w1.heap.size w1 ((w1.alloc (.cells cs 5)).alloc (.cells #[.int .u32 1, .int .u64 5, .bool false, .slice (some ⟨w1.heap.size, 0, none⟩) 64 64] 37)) := hb1.alloc hb1.size _
    have hz : ((w1.alloc (.cells cs 5)).alloc (.cells #[.int .u32 1, .int .u64 5, .bool false, .slice (some ⟨w1.heap.size, 0, none⟩) 64 64] 37)).heap.size = w1.heap.size + 2 := by simp
    have hw := H1.out.2.2.size
    have hd := (Blk.new w1 5 cs).alloc (.cells #[.int .u32 1, .int .u64 5, .bool false, .slice (some ⟨w1.heap.size, 0, none⟩) 64 64] 37)
    rw [hcs2.out] at hd
    have hp := Blk.new (w1.alloc (.cells cs 5)) 37 #[.int .u32 1, .int .u64 5, .bool false, .slice (some ⟨w1.heap.size, 0, none⟩) 64 64]
    simp only [World.size_alloc] at hp
    refine ⟨fun b => b < w.heap.size ∨ (w1.heap.size ≤ b ∧ b < w1.heap.size + 2), fun b hb => .inl hb, H1.out.1.step hb2 (fun b hx => ?_), fun i hi => ?_, H1.out.2.2.trans (hb2.mono hw)⟩
    · rw [hz]
      rcases hx with h | h
      · exact ⟨by omega, .inl h⟩
      · exact ⟨by omega, .inr h.1⟩
    · obtain rfl : i = 0 := by simp at hi; omega
      refine ⟨_, some ⟨w1.heap.size, 0, none⟩, 64, rfl, ?_⟩
      rw [add0, Nat.zero_mul]
      rw [hcs2.out]
      have hrd := Blk.reads hd
      rw [hcs2.out] at hp
      exact ⟨.inr ⟨by show w1.heap.size ≤ w1.heap.size + 1; omega, by show w1.heap.size + 1 < _; omega⟩, hp.cell 0, hp.cell 1, hp.cell 2, hp.cell 3, hrd, fun ad e _ => by
        obtain rfl := Option.some.inj e
        exact .inr ⟨Nat.le_refl _, by show w1.heap.size < _; omega⟩, Nat.le_refl _⟩
  go_wp2_with (fail)
  obtain ⟨X, hX, hst, hpa, hbw⟩ := hP.out
  have hv : ∀ p ∈ [kn1], PvOk p := fun p hp => by
    obtain rfl := List.mem_singleton.1 hp
    exact ⟨by unfold NameOk kn1 Pv.n; decide, fun x hx => by
      have := List.eq_of_mem_replicate hx
      subst this
      unfold ByteOk
      omega, by simp [kn1]⟩
  have hput := put_any X _ F sh0 0 (newM sh0 (P0 sh0)) _ 1 [kn1] (by simp) (by simp) hpa hv H1.out.2.1 (by simp) hst
  rw [show putM sh0 (newM sh0 (P0 sh0)) [kn1] = km1 from rfl, known_1] at hput
  have HPUT := Lib.hid hput
  have HX := Lib.hid (And.intro hX hbw)
  clear hX hbw hst hpa hput hv hP
  generalize (w1.alloc (.cells cs 5)).alloc (.cells #[.int .u32 1, .int .u64 5, .bool false, .slice (some ⟨w1.heap.size, 0, none⟩) 64 64] 37) = w3 at *
  refine HPUT.out.mono ?_
  rintro e w4 ⟨rfl, hst4, hk4⟩
  have H4 : Hid (StoreIs X w4 F sh0 5 km1.2 ∧ Below w.heap.size w w4) := ⟨hst4, Kp.below HX.out.2 hk4 HX.out.2.size (fun b hb h => h (HX.out.1 b hb))⟩
  clear hst4 hk4 hmk
  go_wp2_with (fail)
  refine (map_any X w4 F sh0 5 km1.2 H4.out.1).mono ?_
  rintro e w5 ⟨rfl, rfl⟩
  have hlg := lget_any w4 F.f 5 km1.2.L (1, 5) (by unfold NameOk; decide) H4.out.1.lm
  rw [known_2] at hlg
  have HLG := Lib.hid hlg
  clear hlg
  go_wp2_with (fail)
  refine HLG.out.mono ?_
  rintro e w5 ⟨rfl, hb5⟩
  have H5 := Lib.hid (And.intro (H4.out.1.below hb5) (H4.out.2.trans (hb5.mono H4.out.2.size)))
  clear hb5
  unfold addrV
  simp only [Option.getD_some, Option.isSome_some]
  go_wp2_with (fail)
  have hg1 : Good sh0 km1.2 := putM_good H5.out.1.dev.ok [kn1] H1.out.2.1
  have hz : ((w5.alloc (.cells #[.int .i64 2, .int .i64 1] 58)).alloc (.cells #[.int .u32 1, .int .u64 5, .bool true, .slice none 0 0] 37)).heap.size = w5.heap.size + 2 := by simp
  have hb1 : Below w5.heap.size w5 (w5.alloc (.cells #[.int .i64 2, .int .i64 1] 58)) := (Below.refl _ _).alloc (Nat.le_refl _) _
  have hb2 : Below w5.heap.size w5 ((w5.alloc (.cells #[.int .i64 2, .int .i64 1] 58)).alloc (.cells #[.int .u32 1, .int .u64 5, .bool true, .slice none 0 0] 37)) := hb1.alloc hb1.size _
  have hba := (Blk.new w5 58 #[.int .i64 2, .int .i64 1]).alloc (.cells #[.int .u32 1, .int .u64 5, .bool true, .slice none 0 0] 37)
  have hp := Blk.new (w5.alloc (.cells #[.int .i64 2, .int .i64 1] 58)) 37 #[.int .u32 1, .int .u64 5, .bool true, .slice none 0 0]
  simp only [World.size_alloc] at hp
  have hst6 := H5.out.1.step (X' := fun b => b < w.heap.size ∨ (w5.heap.size ≤ b ∧ b < w5.heap.size + 2)) hb2 (fun b hx => by
    rw [hz]
    have := H5.out.2.size
    rcases hx with h | h
    · exact ⟨by omega, .inl (HX.out.1 b h)⟩
    · exact ⟨by omega, .inr h.1⟩)
  have hpa6 : PutsAt (fun b => b < w.heap.size ∨ (w5.heap.size ≤ b ∧ b < w5.heap.size + 2)) ((w5.alloc (.cells #[.int .i64 2, .int .i64 1] 58)).alloc (.cells #[.int .u32 1, .int .u64 5, .bool true, .slice none 0 0] 37)) (some ⟨w5.heap.size + 1, 0, none⟩) [kn2] := fun i hi => by
    obtain rfl : i = 0 := by simp at hi; omega
    refine ⟨_, none, 0, rfl, ?_⟩
    rw [add0, Nat.zero_mul]
    exact ⟨.inr ⟨by show w5.heap.size ≤ w5.heap.size + 1; omega, by show w5.heap.size + 1 < _; omega⟩, hp.cell 0, hp.cell 1, hp.cell 2, hp.cell 3, Reads.none_, (fun ad e _ => by cases e), Nat.le_refl _⟩
  have hv : ∀ p ∈ [kn2], PvOk p := fun p hp => by
    obtain rfl := List.mem_singleton.1 hp
    exact ⟨by unfold NameOk kn2 Pv.n; decide, (fun x hx => by cases hx), by simp [kn2]⟩
  have hput := put_any _ _ F sh0 5 km1.2 _ 1 [kn2] (by simp) (by simp) hpa6 hv hg1 (by simp) hst6
  rw [show putM sh0 km1.2 [kn2] = km2 from rfl, known_3] at hput
  have HPUT2 := Lib.hid hput
  have HB6 := Lib.hid (And.intro (H5.out.2.trans (hb2.mono H5.out.2.size)) (And.intro hba (putM_good H5.out.1.dev.ok [kn2] hg1)))
  clear hput hpa6 hv hst6 hp hba hb1 hb2 hz hg1
  generalize (w5.alloc (.cells #[.int .i64 2, .int .i64 1] 58)).alloc (.cells #[.int .u32 1, .int .u64 5, .bool true, .slice none 0 0] 37) = w6 at *
  refine HPUT2.out.mono ?_
  rintro e w7 ⟨rfl, hst7, hk7⟩
  have H7 := Lib.hid (And.intro hst7 (And.intro (Kp.below HB6.out.1 hk7 HB6.out.1.size (fun b hb h => h (.inl hb))) (hk7.blk HB6.out.2.1 (fun h => h (.inr ⟨Nat.le_refl _, by omega⟩)))))
  clear hst7 hk7
  have hgt := get_any _ w7 F sh0 _ km2.2 (1, 5) (by unfold NameOk; decide) HB6.out.2.2 H7.out.1
  have HGT := Lib.hid hgt
  clear hgt
  go_wp2_with (fail)
  refine HGT.out.mono ?_
  rintro e w8 ⟨hno, _, hb8⟩
  obtain rfl := hno (by unfold dataM; rw [known_6]; rfl)
  have H8 := Lib.hid (And.intro (H7.out.1.below hb8) (And.intro (H7.out.2.1.trans (hb8.mono H7.out.2.1.size)) (H7.out.2.2.below hb8 H7.out.2.2.lt)))
  clear hno hb8
  go_wp2_with (fail)
  refine (dev_any _ w8 F sh0 _ km2.2 H8.out.1).mono ?_
  rintro e w9 ⟨rfl, rfl⟩
  have hat := zat_any _ w8 F.d sh0 km2.2.P 2 (by rw [H8.out.1.dev.sz]; decide) H8.out.1.dev
  rw [known_4] at hat
  have HAT := Lib.hid hat
  clear hat
  go_wp2_with (fail)
  refine HAT.out.mono ?_
  rintro e w9 ⟨rfl, hb9⟩
  have hst9 := H8.out.1.below hb9
  have hba9 := H8.out.2.2.below hb9 H8.out.2.2.lt
  have a0 : w9.cell? ⟨w5.heap.size, 0, none⟩ = some (.int .i64 2) := hba9.cell 0
  have a1 : w9.cell? ⟨w5.heap.size, 1, none⟩ = some (.int .i64 1) := hba9.cell 1
  have hsq := seq_any _ w9 F sh0 _ km2.2 hst9
  rw [known_5] at hsq
  have HSQ := Lib.hid hsq
  have HB9 := Lib.hid (H8.out.2.1.trans (hb9.mono H8.out.2.1.size))
  clear hsq hst9 hba9 hb9
  generalize (km2.2.P.getD 2 pt0).du = du at *
  simp only [show ((3 : Nat) : Int) = 3 from rfl]
  go_wp2_with (fail)
  refine HSQ.out.mono ?_
  rintro e w10 ⟨rfl, rfl⟩
  go_wp2
  go_ret
  exact ⟨rfl, HB9.out⟩
end Go.Proofs.YtgjcofoicnnnhaaDoor

/- The laws of Store: what was put last; plain. -/
namespace Go.Proofs.YtgjcofoicnnnhaaDoor
open Go.RowKit
set_option maxRecDepth 20000

def lastF (nm : Int × Int) (o : Option Pv) (p : Pv) : Option Pv := if nm = p.n then some p else o
def valP (D : Int × Int → Option (List Int)) (nm : Int × Int) : Option Pv → Option (List Int)
  | none => D nm
  | some p => if p.d then none else some p.da
theorem fold_last (l : List Pv) (D E : Int × Int → Option (List Int)) (nm : Int × Int) (o : Option Pv) (h : E nm = valP D nm o) : (l.foldl updD E) nm = valP D nm (l.foldl (lastF nm) o) := by
  induction l generalizing E o with
  | nil => exact h
  | cons p r ih =>
    apply ih
    unfold updD lastF
    by_cases hn : nm = p.n
    · rw [if_pos hn, if_pos hn]
      rfl
    · rw [if_neg hn, if_neg hn]
      exact h
theorem foldl_last (l : List Pv) (nm : Int × Int) : (l.foldl updD (fun _ => none)) nm = valP (fun _ => none) nm (l.foldl (lastF nm) none) := fold_last l _ _ nm none rfl
/-- What stands in front of one of that name does not matter. -/
theorem last_drop (l : List Pv) (nm : Int × Int) (i : Nat) (hi : i < l.length) (hn : nm = (l.getD i pv0).n) : l.foldl (lastF nm) none = (l.drop i).foldl (lastF nm) (some (l.getD i pv0)) := by
  have e : l = l.take i ++ l.drop i := (List.take_append_drop i l).symm
  conv => lhs; rw [e]
  rw [List.foldl_append, List.drop_eq_getElem_cons hi]
  have hg : l.getD i pv0 = l[i] := by rw [List.getD_eq_getElem?_getD, List.getElem?_eq_getElem hi]; rfl
  rw [hg] at hn ⊢
  simp only [List.foldl_cons, lastF, if_pos hn]
/-- What a loop over the rest of a list has found. -/
structure LastOf (L : List Pv) (i k : Nat) (p : Pv) : Prop where
  fold : ((L.take k).drop i).foldl (lastF (L.getD i pv0).n) (some (L.getD i pv0)) = some p
  nm : p.n = (L.getD i pv0).n
  mem : p ∈ L
theorem LastOf.start {L : List Pv} {i : Nat} (h : i < L.length) : LastOf L i i (L.getD i pv0) := by
  refine ⟨?_, rfl, getD_mem (d := pv0) h⟩
  rw [List.drop_eq_nil_of_le (by simp; omega)]
  rfl
theorem LastOf.step {L : List Pv} {i k : Nat} {p : Pv} (h : LastOf L i k p) (hi : i ≤ k) (hk : k < L.length) : LastOf L i (k + 1) (if (L.getD k pv0).n = (L.getD i pv0).n then L.getD k pv0 else p) := by
  have e : (L.take (k + 1)).drop i = (L.take k).drop i ++ [L.getD k pv0] := by
    rw [List.take_succ_eq_append_getElem hk, List.drop_append_of_le_length (by simp; omega)]
    have hg : L.getD k pv0 = L[k] := by rw [List.getD_eq_getElem?_getD, List.getElem?_eq_getElem hk]; rfl
    rw [hg]
  refine ⟨?_, ?_, ?_⟩
  · rw [e, List.foldl_append, h.fold]
    simp only [List.foldl_cons, List.foldl_nil, lastF]
    by_cases hn : (L.getD k pv0).n = (L.getD i pv0).n
    · rw [if_pos hn, if_pos hn.symm]
    · rw [if_neg hn, if_neg (fun e => hn e.symm)]
  · split
    · assumption
    · exact h.nm
  · split
    · exact getD_mem (d := pv0) hk
    · exact h.mem
theorem LastOf.whole {L : List Pv} {i : Nat} {p : Pv} (h : LastOf L i L.length p) (hi : i < L.length) : L.foldl (lastF p.n) none = some p := by
  have h1 := h.fold
  rw [List.take_length] at h1
  rw [h.nm, last_drop L _ i hi rfl]
  exact h1
theorem LastOf.data {L : List Pv} {i : Nat} {p : Pv} (h : LastOf L i L.length p) (hi : i < L.length) {m : StM} (hm : dataM m = L.foldl updD (fun _ => none)) : dataM m p.n = if p.d then none else some p.da := by
  rw [hm, foldl_last, h.whole hi]
  rfl
/-- What Put answers, and what is there behind it. -/
theorem putM_facts {sh : Sh} (hok : sh.ok) {m : StM} {l : List Pv} (h : Good sh m) (ha : argOk sh l = true) :
    Good sh (putM sh m l).2 ∧ m.seq ≤ (putM sh m l).2.seq ∧ (putM sh m l).2.seq ≤ m.seq + l.length ∧ ((putM sh m l).1 = 0 ∨ (putM sh m l).1 = 160) ∧ ((putM sh m l).1 = 0 → dataM (putM sh m l).2 = l.foldl updD (dataM m) ∧ (0 < l.length → m.seq + 1 ≤ (putM sh m l).2.seq)) := by
  unfold putM
  rw [if_pos ha]
  exact putL_good hok _ h (Nat.le_refl _)
theorem putM_arg {sh : Sh} {m : StM} {l : List Pv} (ha : argOk sh l = false) : putM sh m l = (1, m) := by
  unfold putM
  rw [ha]
  rfl
end Go.Proofs.YtgjcofoicnnnhaaDoor

