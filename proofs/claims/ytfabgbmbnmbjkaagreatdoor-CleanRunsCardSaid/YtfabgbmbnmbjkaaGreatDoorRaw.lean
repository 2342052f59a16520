/- Joined texts: St14 Sl1. -/
import Derived.Test.YtfabgbmbnmbjkaaGreatDoorRav
/- Pruned. -/
namespace Go.Proofs.YtfabgbmbnmbjkaaGreatDoor
open Go.RowKit
set_option maxRecDepth 20000
def P0 (sh : Sh) : List Part := saveP (List.replicate sh.z pt0) 0 (doneB (headC 0 1 0 0) sh.bl)
theorem flushP_bs (P : List Part) (i : Nat) : ((flushP P).getD i pt0).bs = (P.getD i pt0).bs := by
 unfold flushP
 simp only [List.getD_eq_getElem?_getD, List.getElem?_map]
 cases P[i]? <;> rfl
theorem new_good (sh : Sh) (hok : sh.ok) : Good sh (newM sh (P0 sh)) := by
 have hf := hok.facts
 refine ⟨by show (newL sh.z).length = sh.z; rw [newL_length _ (by omega)]; simp, by simp [newM, P0, saveP, flushP_length, appP_length], fun h => ?_, fun z hz => ?_, List.Pairwise.nil, fun p hp => by cases hp⟩
 · have : (0 : Int) <= -1 := h
   omega
 · show ((P0 sh).getD z pt0).bs = []
   have hz0 : 0 ≠ z := by
    rintro rfl
    have h1 : stateAt (newL sh.z) 0 = 1 := hz
    unfold stateAt at h1
    split at h1
    · simp [newL] at h1
    · omega
   unfold P0 saveP
   rw [flushP_bs, appP_other _ _ _ _ hz0, getD_set_other _ _ _ _ _ hz0]
   simp only [List.getD_eq_getElem?_getD, List.getElem?_replicate]
   split <;> rfl
def NewS (z zb bl rs : Int) (w : World) (e : Ending) (w' : World) : Prop :=
 (rightB z zb bl rs = true -> ∃ (F : StF) (sh : Sh), z = sh.z ∧ zb = sh.zb ∧ bl = sh.bl ∧ rs = sh.rs ∧ e = .returned (.pointer (some ⟨F.s, 0, none⟩)) ∧ StoreIs (fun b => b < w.heap.size) w' F sh 0 (newM sh (P0 sh)) ∧ (∀ i, F.own i -> w.heap.size <= i) ∧ Good sh (newM sh (P0 sh))) ∧ (rightB z zb bl rs = false -> e = .returned (.pointer none)) ∧ Below w.heap.size w w'
theorem snew_any (z zb bl rs : Int) (w : World) (hz : -9223372036854775808 <= z ∧ z <= 9223372036854775807) (hb : -9223372036854775808 <= bl ∧ bl <= 9223372036854775807) :
    Calls Tryz.prog 12 #[.agg #[.int .i64 z, .int .i64 zb, .int .i64 bl, .int .i64 rs]] w (NewS z zb bl rs w) := by
 have HZ := Lib.hid (fun u => znew_any z zb bl rs u hz hb)
 clear hz hb
 go_enter Tryz.func12, Tryz.ntmps12
 go_wp2_with (fail)
 refine (HZ.out _).mono ?_
 rintro e w2 ⟨hy, hn, hb2⟩
 have h1s : (w.alloc (.cells #[.int .i64 z, .int .i64 zb, .int .i64 bl, .int .i64 rs] 23)).heap.size = w.heap.size + 1 := by simp
 have hB : Below w.heap.size w w2 := ((Below.refl w.heap.size w).alloc (Nat.le_refl _) _).trans (hb2.mono (by omega))
 have HB := Lib.hid hB
 cases hr : rightB z zb bl rs with
 | false =>
   obtain rfl := hn hr
   have HR := Lib.hid hr
   clear hy hn hr hb2 h1s hB
   go_wp2
   go_ret
   exact ⟨fun h => (by rw [HR.out] at h; cases h), fun _ => rfl, HB.out⟩
 | true =>
   obtain ⟨d, sh, e1, e2, e3, e4, rfl, hd, hdev⟩ := hy hr
   have HR := Lib.hid (And.intro hr (And.intro e1 (And.intro e2 (And.intro e3 e4))))
   have HD : Hid (DevIs (fun b => b < w.heap.size) w2 d sh (List.replicate sh.z pt0)) := hdev.less (fun b hb => by
    show b < (w.alloc _).heap.size
    have : b < w.heap.size := hb
    rw [h1s]; omega)
   clear hy hn hr hb2 h1s hB hdev e1 e2 e3 e4 hd
   go_wp2_with (fail)
   refine (csave_nil _ w2 d sh _ 0 (by omega) 0 (by omega) HD.out).mono ?_
   rintro e w3 ⟨rfl, hd3, hk3⟩
   have HD3 : Hid (DevIs (fun b => b < w.heap.size) w3 d sh (P0 sh)) := hd3
   have HB3 : Hid (Below w.heap.size w w3) := Kp.below HB.out hk3 HB.out.size (fun b hb h => h hb)
   clear hd3 hk3
   go_wp2_with (fail)
   refine (on_any _ w3 d sh _ HD3.out).mono ?_
   rintro e w4 ⟨F, rfl, hFd, ho, hst, hb4⟩
   have H4 : Hid (NewS z zb bl rs w (.returned (.pointer (some ⟨F.s, 0, none⟩))) w4) := ⟨fun _ => ⟨F, sh, HR.out.2.1, HR.out.2.2.1, HR.out.2.2.2.1, HR.out.2.2.2.2, rfl, hst, fun i hi => Nat.le_trans HB3.out.size (ho i hi), new_good sh HD3.out.ok⟩, fun h => (by rw [HR.out.1] at h; cases h), HB3.out.trans (hb4.mono HB3.out.size)⟩
   clear hFd ho hst hb4
   go_wp2
   go_ret
   exact H4.out
end Go.Proofs.YtfabgbmbnmbjkaaGreatDoor

/- Pruned. -/
namespace Go.Proofs.YtfabgbmbnmbjkaaGreatDoor
open Go.RowKit
set_option maxRecDepth 20000
theorem truth_any (w : World) (b : Bool) : Calls Tryz.prog 37 #[.bool b] w (fun e w' => e = .returned (.int .i64 (if b then 1 else 0)) ∧ w = w') := by
 cases b
 all_goals
  go_enter Tryz.func37, Tryz.ntmps37
  go_wp2
  go_ret
  exact ⟨rfl, rfl⟩
def smallB (z zb bl : Int) : Bool := decide (z <= 12) && (decide (zb <= 16) && decide (bl <= 128))
theorem small_any (z zb bl rs : Int) (w : World) : Calls Tryz.prog 78 #[.agg #[.int .i64 z, .int .i64 zb, .int .i64 bl, .int .i64 rs]] w (Makes (.bool (smallB z zb bl)) w) := by
 by_cases h1 : z <= 12
 · by_cases h2 : zb <= 16
   · by_cases h3 : bl <= 128
     all_goals
      have e : smallB z zb bl = _ := rfl
      unfold smallB at e ⊢
      simp only [h1, h2, h3, decide_true, decide_false, Bool.and_true, Bool.and_false]
      clear e
      go_enter Tryz.func78, Tryz.ntmps78
      go_wp2
      go_ret
      exact ⟨rfl, (Below.refl _ _).alloc (Nat.le_refl _) _⟩
   · unfold smallB
     simp only [h1, h2, decide_true, decide_false, Bool.and_false, Bool.false_and]
     go_enter Tryz.func78, Tryz.ntmps78
     go_wp2
     go_ret
     exact ⟨rfl, (Below.refl _ _).alloc (Nat.le_refl _) _⟩
 · unfold smallB
   simp only [h1, decide_false, Bool.false_and]
   go_enter Tryz.func78, Tryz.ntmps78
   go_wp2
   go_ret
   exact ⟨rfl, (Below.refl _ _).alloc (Nat.le_refl _) _⟩
end Go.Proofs.YtfabgbmbnmbjkaaGreatDoor

