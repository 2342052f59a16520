/- Contracts of the reference's Seg: a new one. -/
import Derived.Test.YtgninjlgeibgpaaSr3
namespace Go.Proofs.Ytgninjlgeibgpaa
open Go.RowKit

theorem row_own {w : World} {b base : Nat} {e : TypeId} (xs ex : List Value) (h : Blk w b e (xs ++ ex).toArray) (hb : base ≤ b) (hm : (xs ++ ex).length ≤ maxLen) : w.ownsRow base e 1 (.slice (some ⟨b, 0, none⟩) xs.length (xs ++ ex).length) xs.length xs :=
  ⟨by simp, .inr ⟨b, _, _, rfl, hb, h, by simp, hm, by simp, by simp⟩⟩
theorem own_row {w : World} {base n c : Nat} {A : Option Addr} {e : TypeId} {xs : List Value} (h : w.ownsRow base e 1 (.slice A n c) n xs) (hn : 0 < n) : ∃ b ex, A = some ⟨b, 0, none⟩ ∧ base ≤ b ∧ Blk w b e (xs ++ ex).toArray := by
  rcases h.2 with ⟨_, h0⟩ | ⟨g, cap, cur, hv, hb, hh, _, _, _, ht⟩
  · omega
  · injection hv with hA
    refine ⟨g, cur.toList.drop n, hA, hb, ?_⟩
    rw [Nat.mul_one] at ht
    rw [← ht, List.take_append_drop]
    exact hh

def frontR (k : Nat) : List Int := [4, 4] ++ List.replicate k 1
theorem frontR_length (k : Nat) : (frontR k).length = k + 2 := by simp [frontR]
theorem frontR_succ (k : Nat) : frontR (k + 1) = frontR k ++ [1] := by simp [frontR, List.replicate_succ']

def RNews (z zb bl rs : Int) (w : World) (e : Ending) (w' : World) : Prop :=
  (rightB z zb bl rs = true → ∃ g b cap ex, e = .returned (.pointer (some ⟨g, 0, none⟩)) ∧ w.heap.size ≤ g ∧ w.heap.size ≤ b ∧ RefIs w' g b cap ex (newL z) z zb bl rs) ∧ (rightB z zb bl rs = false → e = .returned (.pointer none)) ∧ Below w.heap.size w w'

theorem byte_info : (Try.prog.info? 5).map (fun i => (i.zero, i.size, i.bytes)) = some (some (.int .u8 0), 1, 1) := by kernel_rfl

theorem refnew_any (z zb bl rs : Int) (w : World) (hz : -9223372036854775808 ≤ z ∧ z ≤ 9223372036854775807) :
    Calls Try.prog 9 #[.agg #[.int .i64 z, .int .i64 zb, .int .i64 bl, .int .i64 rs]] w (RNews z zb bl rs w) := by
  have HR := Lib.hid (fun w => refright_any z zb bl rs w hz)
  obtain ⟨i0, hi0, hz0, hz1, hz2⟩ := info_parts byte_info
  cases hr : rightB z zb bl rs with
  | false =>
    have HF := Lib.hid hr
    rw [hr] at HR
    clear hr
    go_enter Try.func9, Try.ntmps9
    go_wp2_with (fail)
    refine (HR.out _).mono ?_
    rintro e w1 ⟨rfl, hb1⟩
    go_wp2
    go_ret
    exact ⟨fun ht => absurd (ht.symm.trans HF.out) (by decide), fun _ => rfl, ((Below.refl _ _).alloc (Nat.le_refl _) _).trans (hb1.mono (by simp))⟩
  | true =>
    have HT := Lib.hid hr
    have hz2' : 6 ≤ z ∧ z ≤ 256 := by
      have := of_decide_eq_true hr
      omega
    rw [hr] at HR
    clear hr hz
    obtain ⟨n, rfl⟩ := Int.eq_ofNat_of_zero_le (show 0 ≤ z by omega)
    go_enter Try.func9, Try.ntmps9
    go_wp2_with (fail)
    refine (HR.out _).mono ?_
    rintro e w1 ⟨rfl, hb1⟩
    have hblk := (Blk.new w 23 #[.int .i64 n, .int .i64 zb, .int .i64 bl, .int .i64 rs]).below hb1 (by simp)
    have hc0 : w1.cell? ⟨w.heap.size, 0, none⟩ = some (.int .i64 n) := hblk.cell 0
    have hc1 : w1.cell? ⟨w.heap.size, 1, none⟩ = some (.int .i64 zb) := hblk.cell 1
    have hc2 : w1.cell? ⟨w.heap.size, 2, none⟩ = some (.int .i64 bl) := hblk.cell 2
    have hc3 : w1.cell? ⟨w.heap.size, 3, none⟩ = some (.int .i64 rs) := hblk.cell 3
    have hs1 : w.heap.size < w1.heap.size := by have := hb1.size; simp at this; omega
    have hbw : Below w.heap.size w w1 := ((Below.refl _ _).alloc (Nat.le_refl _) _).trans (hb1.mono (by simp))
    have HBW := Lib.hid hbw
    clear hbw hb1 HR
    have HBL := Lib.hid hblk
    clear hblk
    go_wp2_with (fail)
    generalize hG : w1.heap.size = s1 at *
    have HB1 : Hid (Blk ((w1.alloc (.cells #[.int .u8 4, .int .u8 4] 5)).alloc (.cells #[.int .i64 n, .int .i64 zb, .int .i64 bl, .int .i64 rs, .slice (some ⟨s1, 0, none⟩) 2 2] 49)) (s1 + 1) 49 #[.int .i64 n, .int .i64 zb, .int .i64 bl, .int .i64 rs, .slice (some ⟨s1, 0, none⟩) (0 + 2) 2]) := by
      have := Blk.new (w1.alloc (.cells #[.int .u8 4, .int .u8 4] 5)) 49 #[.int .i64 n, .int .i64 zb, .int .i64 bl, .int .i64 rs, .slice (some ⟨s1, 0, none⟩) 2 2]
      simpa [hG, Hid] using this
    have HO1 : Hid (((w1.alloc (.cells #[.int .u8 4, .int .u8 4] 5)).alloc (.cells #[.int .i64 n, .int .i64 zb, .int .i64 bl, .int .i64 rs, .slice (some ⟨s1, 0, none⟩) 2 2] 49)).ownsRow s1 5 1 (.slice (some ⟨s1, 0, none⟩) (0 + 2) 2) (0 + 2) (nums .u8 (frontR 0))) := by
      have := (Blk.new w1 5 #[.int .u8 4, .int .u8 4]).alloc (.cells #[.int .i64 n, .int .i64 zb, .int .i64 bl, .int .i64 rs, .slice (some ⟨s1, 0, none⟩) 2 2] 49)
      rw [hG] at this
      exact row_own (nums .u8 (frontR 0)) [] this (Nat.le_refl _) (by decide)
    have HX := Lib.hid ((HBL.out.alloc (.cells #[.int .u8 4, .int .u8 4] 5)).alloc (.cells #[.int .i64 n, .int .i64 zb, .int .i64 bl, .int .i64 rs, .slice (some ⟨s1, 0, none⟩) 2 2] 49))
    have HW : Hid (Below w.heap.size w ((w1.alloc (.cells #[.int .u8 4, .int .u8 4] 5)).alloc (.cells #[.int .i64 n, .int .i64 zb, .int .i64 bl, .int .i64 rs, .slice (some ⟨s1, 0, none⟩) 2 2] 49))) := (HBW.out.alloc (by omega) _).alloc (by simp; omega) _
    have hsz : s1 + 2 ≤ ((w1.alloc (.cells #[.int .u8 4, .int .u8 4] 5)).alloc (.cells #[.int .i64 n, .int .i64 zb, .int .i64 bl, .int .i64 rs, .slice (some ⟨s1, 0, none⟩) 2 2] 49)).heap.size := by simp; omega
    generalize (w1.alloc (.cells #[.int .u8 4, .int .u8 4] 5)).alloc (.cells #[.int .i64 n, .int .i64 zb, .int .i64 bl, .int .i64 rs, .slice (some ⟨s1, 0, none⟩) 2 2] 49) = w3 at *
    clear hG HBL HBW hc0 hc1 hc2 hc3
    go_loopg [] (n - 2) (fun j wr => ∃ (k : Nat) (A : Option Addr) (c : Nat), Hid (j + k + 2 = n) ∧ Hid (Blk wr (s1 + 1) 49 #[.int .i64 n, .int .i64 zb, .int .i64 bl, .int .i64 rs, .slice A (k + 2) c]) ∧ Hid (wr.ownsRow s1 5 1 (.slice A (k + 2) c) (k + 2) (nums .u8 (frontR k))) ∧ Hid (Blk wr w.heap.size 23 #[.int .i64 n, .int .i64 zb, .int .i64 bl, .int .i64 rs]) ∧ Hid (Below w.heap.size w wr))
    case atStart => exact ⟨0, _, _, by unfold Hid; omega, HB1, HO1, HX, HW⟩
    case round =>
      obtain ⟨k, A, c, hj, hbk, hown, hx, hbl⟩ := hrel
      have hjo := hj.out
      have h0 : wr.cell? ⟨s1 + 1, 4, none⟩ = some (.slice A (k + 2) c) := hbk.out.cell 4
      have hz0' : wr.cell? ⟨w.heap.size, 0, none⟩ = some (.int .i64 n) := hx.out.cell 0
      have hf : wr.frozen? ⟨s1 + 1, 4, none⟩ = false := hbk.out.frozen 4
      have hsl : s1 + 1 < wr.heap.size := hbk.out.lt
      have hkn : k + 2 ≤ n := by omega
      clear hjo HB1 HO1 HX HW
      by_cases hlt : k + 2 < n
      · go_wp2_with (fail)
        go_quiet (fail)
        have HQ := Lib.hid (hbk.out.drewN nq)
        have HO := Lib.hid (hown.out)
        have hlenr := frontR_length k
        have hneg : some (s1 + 1) ≠ (Value.slice A (k + 2) c).ownBlock := fun e => own_blk_ne hown.out hbk.out (by decide) e.symm
        have hneg2 : some w.heap.size ≠ (Value.slice A (k + 2) c).ownBlock := fun e => own_blk_ne hown.out hx.out (by decide) e.symm
        have HN := Lib.hid hneg
        have HN2 := Lib.hid hneg2
        clear hneg hneg2
        go_wp2_with
          (first
            | (at_builtin
               refine wpList_append_any _ rfl (.tmp 25) (.tmp 26) _ rfl s1 5 i0 _ 1 1 Try.underlying44 hi0 hz0 hz1 hz2 rfl (by omega) (.slice A (k + 2) c) (k + 2) (nums .u8 (frontR k)) rfl
                 ((show (wr.drewN nq).ownsRow s1 5 1 (.slice A (k + 2) c) (k + 2) (nums .u8 (frontR k)) from hown.out).alloc _) _ _ 1 1 [.int .u8 1] rfl (reads_byte (wr.drewN nq) wr.heap.size 1 rfl) (nums_one .u8 [1]) (by simp only [maxLen]; omega) (by omega) (by simp; omega) ?_
               intro v2 w4 hown2 hg2 hat2
               obtain ⟨A2, c2, rfl⟩ := own_form hown2
               have hb4 := (hbk.out.drewN nq |>.alloc (.cells #[.int .u8 1] 5)).grown hg2 HN.out
               have hx4 := (hx.out.drewN nq |>.alloc (.cells #[.int .u8 1] 5)).grown hg2 HN2.out
               have hf4 : w4.frozen? ⟨s1 + 1, 4, none⟩ = false := hb4.frozen 4
               have hc4 : w4.cell? ⟨s1 + 1, 4, none⟩ = some (.slice A (k + 2) c) := hb4.cell 4
               have HB4 := Lib.hid hb4
               have HX4 := Lib.hid hx4
               have HO2 := Lib.hid hown2
               have HG2 := Lib.hid hg2
               clear hb4 hx4 hown2 hg2 hat2))
        go_roundg (n - (k + 1) - 2)
        case measure => have := hj.out; omega
        case rel =>
          refine ⟨k + 1, A2, c2, ?_, ?_, ?_, ?_, ?_⟩
          · unfold Hid; omega
          · exact HB4.out.set_ 4 _
          · have h1 := ownsRow_setCell_other (a := ⟨s1 + 1, 4, none⟩) HO2.out (own_blk_ne HO2.out HB4.out (by decide)) (.slice A2 (k + 2 + 1) c2)
            rw [frontR_succ, show nums .u8 (frontR k ++ [1]) = nums .u8 (frontR k) ++ [.int .u8 1] by simp [nums]]
            exact h1
          · exact HX4.out.far (by show w.heap.size ≠ s1 + 1; omega) _
          · have h1 := ((below_drewN hbl.out nq).alloc (by have := hbl.out.size; simpa using this) (.cells #[.int .u8 1] 5)).grown HG2.out (by have := hbl.out.size; simp; omega) (fun g hg => by have := (hown.out.lt g hg).1; omega)
            exact h1.setCell (p := ⟨s1 + 1, 4, none⟩) (show w.heap.size ≤ s1 + 1 by omega) _
      · have hk2 : n = k + 2 := by omega
        subst hk2
        go_wp2_with (fail)
        go_quiet (fail)
        go_wp2
        go_ret
        refine ⟨fun _ => ?_, fun hf => absurd (hf.symm.trans HT.out) (by decide), below_drewN hbl.out _⟩
        obtain ⟨b, ex, rfl, hb, hrow⟩ := own_row hown.out (by omega)
        refine ⟨s1 + 1, b, c, ex, rfl, by omega, by omega, ?_⟩
        have hfr : newL ((k + 2 : Nat) : Int) = frontR k := by simp only [newL, frontR]; rw [show ((k + 2 : Nat) : Int).toNat - 2 = k by omega]
        rw [hfr]
        exact ⟨by rw [frontR_length]; exact hbk.out, hrow⟩
end Go.Proofs.Ytgninjlgeibgpaa
