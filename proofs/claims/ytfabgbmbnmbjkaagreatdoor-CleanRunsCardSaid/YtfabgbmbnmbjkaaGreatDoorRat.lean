/- Joined texts: Sg6. -/
import Derived.Test.YtfabgbmbnmbjkaaGreatDoorRak
import Derived.Deep.RegionHeld3
/- Pruned. -/
namespace Go.Proofs.YtfabgbmbnmbjkaaGreatDoor
open Go.RowKit
set_option maxRecDepth 20000
def newL (z : Int) : List Int := [4, 4] ++ List.replicate (z.toNat - 2) 1
def frontL (n k : Nat) : List Int := List.replicate k 4 ++ List.replicate (n - k) 1
theorem frontL_length (n k : Nat) (h : k <= n) : (frontL n k).length = n := by simp [frontL]; omega
theorem frontL_zero (n : Nat) : frontL n 0 = List.replicate n 1 := by simp [frontL]
theorem frontL_set (n k : Nat) (h : k < n) : (frontL n k).set k 4 = frontL n (k + 1) := by
 unfold frontL
 rw [List.set_append_right _ _ (by simp), List.length_replicate, Nat.sub_self]
 obtain ⟨m, hm⟩ : ∃ m, n - k = m + 1 := ⟨n - k - 1, by omega⟩
 rw [hm, List.replicate_succ, List.set_cons_zero, show n - (k + 1) = m by omega, List.replicate_succ' (n := k)]
 simp
theorem newL_front (n : Nat) : newL n = frontL n 2 := by simp [newL, frontL]
theorem fill_nums (n : Nat) : (fillv 1 n n).toArray = (nums .u8 (List.replicate n 1)).toArray := by simp [fillv, nums]
theorem reads_byte (w : World) (g : Nat) (x : Int) (hg : g = w.heap.size) : Reads (w.alloc (.cells #[.int .u8 x] 5)) (w.alloc (.cells #[.int .u8 x] 5)).heap.size 1 (some ⟨g, 0, none⟩) 1 [.int .u8 x] := by
 subst hg
 refine ⟨rfl, fun _ => ⟨_, rfl, by show _ < (w.heap.push _).size; simp, fun j u hu => ?_⟩⟩
 match j, hu with
 | 0, hu =>
   simp at hu
   subst hu
   simp [go_sem, Addr.add]
 | j + 1, hu => simp at hu
def News (z zb bl rs : Int) (w : World) (e : Ending) (w' : World) : Prop :=
 (rightB z zb bl rs = true -> ∃ g b, e = .returned (.pointer (some ⟨g, 0, none⟩)) ∧ w.heap.size <= g ∧ w.heap.size <= b ∧ SegIs w' g b (newL z) rs (z - 2)) ∧ (rightB z zb bl rs = false -> e = .returned (.pointer none)) ∧ Below w.heap.size w w'
theorem new_any (z zb bl rs : Int) (w : World) (hz : -9223372036854775808 <= z ∧ z <= 9223372036854775807) (hb : -9223372036854775808 <= bl ∧ bl <= 9223372036854775807) :
    Calls Tryz.prog 87 #[.agg #[.int .i64 z, .int .i64 zb, .int .i64 bl, .int .i64 rs]] w (News z zb bl rs w) := by
 have HR := Lib.hid (fun w => right_any z zb bl rs w hz hb)
 cases hr : rightB z zb bl rs with
 | false =>
   have HF := Lib.hid hr
   rw [hr] at HR
   clear hr
   go_enter Tryz.func87, Tryz.ntmps87
   go_wp2_with (fail)
   refine (HR.out _).mono ?_
   rintro e w1 ⟨rfl, hb1⟩
   go_wp2
   go_ret
   exact ⟨fun ht => absurd (ht.symm.trans HF.out) (by decide), fun _ => rfl, ((Below.refl _ _).alloc (Nat.le_refl _) _).trans (hb1.mono (by simp))⟩
 | true =>
   have HT := Lib.hid hr
   have hz2 : 6 <= z ∧ z <= 256 := by
    have := of_decide_eq_true hr
    omega
   rw [hr] at HR
   clear hr hz hb
   obtain ⟨n, rfl⟩ := Int.eq_ofNat_of_zero_le (show 0 <= z by omega)
   go_enter Tryz.func87, Tryz.ntmps87
   go_wp2_with (fail)
   refine (HR.out _).mono ?_
   rintro e w1 ⟨rfl, hb1⟩
   have hblk := (Blk.new w 23 #[.int .i64 n, .int .i64 zb, .int .i64 bl, .int .i64 rs]).below hb1 (by simp)
   have hc0 : w1.cell? ⟨w.heap.size, 0, none⟩ = some (.int .i64 n) := hblk.cell 0
   have hc3 : w1.cell? ⟨w.heap.size, 3, none⟩ = some (.int .i64 rs) := hblk.cell 3
   have hs1 : w.heap.size < w1.heap.size := by have := hb1.size; simp at this; omega
   have hbw : Below w.heap.size w w1 := ((Below.refl _ _).alloc (Nat.le_refl _) _).trans (hb1.mono (by simp))
   have HBW := Lib.hid hbw
   clear hbw hb1 HR
   have HBL := Lib.hid hblk
   clear hblk
   have hwr : IntKind.i64.wrap ((n : Int) - 2) = (n : Int) - 2 := by rw [IntKind.wrap_i64]; omega
   go_wp2_with (fail)
   go_region_held3 (fun w' => w'.cell? ⟨w.heap.size, 0, none⟩ = some (.int .i64 n) ∧ w'.cell? ⟨w.heap.size, 3, none⟩ = some (.int .i64 rs)) (go_keep)
     (first | (go_at_call 146; refine (repeat_any 1 n 1 _ (by omega) (by omega) _ ?_).mono ?_; (exact reads_byte _ _ _ (by simp)); (rintro e w2 ⟨b, rfl, hgb, hbb, hb2⟩; have hs2 := hb2.size; simp at hs2 hgb; have hbl2 := (HBL.out.drew.alloc _).below hb2 (by simp; omega); have k0 : w2.cell? ⟨w.heap.size, 0, none⟩ = some (.int .i64 n) := hbl2.cell 0; have k3 : w2.cell? ⟨w.heap.size, 3, none⟩ = some (.int .i64 rs) := hbl2.cell 3; have HB2 := Lib.hid hb2; have HBB := Lib.hid hbb; clear hb2 hbb hbl2 hc0 hc3)))
   clear hwr
   have hbb2 := HBB.out
   rw [fill_nums] at hbb2
   have HS0 : Hid (SegIs (w2.alloc (.cells #[.slice (some ⟨b, 0, none⟩) n n, .int .i64 rs, .int .i64 ((n : Int) - 2)] 124)) w2.heap.size b (frontL n 0) rs ((n : Int) - 2)) := ⟨by
    have := Blk.new w2 124 #[.slice (some ⟨b, 0, none⟩) n n, .int .i64 rs, .int .i64 ((n : Int) - 2)]
    rw [frontL_length n 0 (by omega)]
    exact this, by rw [frontL_zero]; exact hbb2.alloc _⟩
   clear hbb2
   have hbw2 : Below w.heap.size w w2 := (((HBW.out.drew).alloc (by simp; omega) _).trans (HB2.out.mono (by simp; omega)))
   have hbw3 : Below w.heap.size w (w2.alloc (.cells #[.slice (some ⟨b, 0, none⟩) n n, .int .i64 rs, .int .i64 ((n : Int) - 2)] 124)) := hbw2.alloc hbw2.size _
   have hsz3 := hbw2.size
   generalize hW3 : w2.alloc (.cells #[.slice (some ⟨b, 0, none⟩) n n, .int .i64 rs, .int .i64 ((n : Int) - 2)] 124) = w3 at *
   clear hW3
   generalize hG : w2.heap.size = g at *
   clear hG HBL HBB HB2 hbw2
   go_wp2_with (fail)
   go_loopw [4, 19] (fun _ i wr => ∃ k : Nat, k <= 2 ∧ i = .int .i64 k ∧ Hid (SegIs wr g b (frontL n k) rs ((n : Int) - 2)) ∧ Below w.heap.size w wr) (fun _ i _ => 2 - (intOf i).toNat)
   case atStart => exact ⟨0, by omega, rfl, HS0, hbw3⟩
   case round =>
    obtain ⟨k, hk, rfl, hsk, hbk⟩ := hrel
    by_cases hlt : k < 2
    · have h0 := hsk.out.c0
      have hl := frontL_length n k (by omega)
      rw [hl] at h0
      have hc := hsk.out.at_ (k := k) (by omega)
      have hf := hsk.out.fzb k
      have hk8 : k < n := by omega
      clear hl
      go_wp2
      go_roundw
      case rel =>
       refine ⟨k + 1, by omega, by go_num, ?_, hbk.setCell (p := ⟨b, k, none⟩) (show w.heap.size <= b by omega) _⟩
       refine ⟨?_, ?_⟩
       · have := hsk.out.top.far (p := ⟨b, k, none⟩) hsk.out.ne_ (.int .u8 4)
         rw [frontL_length n k (by omega)] at this
         rw [frontL_length n (k + 1) (by omega)]
         exact this
       · have := hsk.out.row.set_ k (.int .u8 4)
         rw [nums_set, frontL_set n k (by omega)] at this
         exact this
      case measure => simp [intOf]; omega
    · have hk2 : k = 2 := by omega
      subst hk2
      go_wp2
      go_ret
      refine ⟨fun _ => ⟨g, b, rfl, by omega, by omega, ?_⟩, fun hf => absurd (hf.symm.trans HT.out) (by decide), hbk⟩
      rw [newL_front]
      exact hsk.out
end Go.Proofs.YtfabgbmbnmbjkaaGreatDoor

