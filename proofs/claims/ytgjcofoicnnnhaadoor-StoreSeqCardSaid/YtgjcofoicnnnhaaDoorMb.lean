/- Joined texts: Re4 Ck Zn2 Zn3 Zn4 Zn5 Zn6 Ck2 En Mv Lm. -/
import Derived.Test.YtgjcofoicnnnhaaDoorMa
import Derived.BigRegion
import Derived.Maps.OwnSet
import Derived.Maps.RangeWalk
import Derived.DeepKeys4
import Derived.WideKeyEntry
import Derived.RegionTactic
import Derived.StillTailTactics
import Derived.Test.YtgjcofoicnnnhaaDoorChecked
import Derived.WalkKit
import Derived.WalkLawsBesides
import Derived.BigQuiet
import Derived.Deep.QuietTactic
import Derived.Deep.RegionWith
import Derived.Deep.RegionHeld3
import Derived.Lib.Hide
import Derived.Handy
/- Package rec: Encode. -/
namespace Go.Proofs.YtgjcofoicnnnhaaDoor
open Go.RowKit
set_option maxRecDepth 20000

theorem u16_wrap (x : Int) (h : 0 ≤ x ∧ x ≤ 65535) : 0 ≤ x ∧ x ≤ 18446744073709551615 := by omega

/-- A sum's bytes come back. -/
def PackSum (w9 : World) (S : Int) (e : Ending) (w' : World) : Prop := ∃ A c, e = .returned (.slice A 4 c) ∧ Reads w' w'.heap.size 1 A 4 (nums .u8 (beB 4 S)) ∧ Below w9.heap.size w9 w'
theorem pack_sum (w9 u : World) (g1 g2 : Nat) (S : Int) (hS : U32 S) (h1 : Blk u g1 3 #[.int .i64 4]) (h2 : Blk u g2 34 #[.int .u64 S]) (hb : Below w9.heap.size w9 u) :
    Calls Tryd.prog 71 #[.slice (some ⟨g1, 0, none⟩) 1 1, .slice (some ⟨g2, 0, none⟩) 1 1] u (PackSum w9 S) := by
  have h := pack_any u _ _ _ _ 1 1 [4] [S] (reads_lit h1 rfl) (reads_lit h2 rfl) (by simp) (by simp) (by simp) (by
    intro x hx
    simp only [List.mem_cons, List.not_mem_nil, or_false] at hx
    have := hS.1
    have := hS.2
    omega)
  refine h.mono ?_
  rintro e w11 ⟨A11, c11, rfl, hr11, hb11⟩
  have e11 : packS [4] [S] = beB 4 S := by simp [packS, widthN]
  have e12 : (beB 4 S).length = 4 := beB_length _ _
  rw [e11] at hr11 ⊢
  have hrd := hr11.reads
  rw [e12] at hrd ⊢
  exact ⟨A11, c11, rfl, hrd, hb.trans (hb11.mono hb.size)⟩
theorem lits1 (w9 w10 : World) (S : Int) (hS : U32 S) (hb : Below (w9.alloc (.cells #[.int .i64 4] 3)).drew.heap.size (w9.alloc (.cells #[.int .i64 4] 3)).drew w10) :
    Calls Tryd.prog 71 #[.slice (some ⟨w9.heap.size, 0, none⟩) 1 1, .slice (some ⟨w10.heap.size, 0, none⟩) 1 1] (w10.alloc (.cells #[.int .u64 S] 34)) (PackSum w9 S) := by
  have h910 : Below w9.heap.size w9 w10 := (((Below.refl _ w9).alloc (Nat.le_refl _) _).drew).trans (hb.mono (by simp [World.drew]))
  exact pack_sum w9 _ _ _ S hS ((((Blk.new w9 3 #[.int .i64 4]).drew).below hb (by simp [World.drew])).alloc _) (Blk.new w10 34 #[.int .u64 S]) (h910.alloc h910.size _)
theorem lits2 (w9 w10 : World) (S : Int) (hS : U32 S) (h : Below w9.heap.size w9 w10) :
    Calls Tryd.prog 71 #[.slice (some ⟨w10.heap.size, 0, none⟩) 1 1, .slice (some ⟨w10.heap.size + 1, 0, none⟩) 1 1] ((w10.alloc (.cells #[.int .i64 4] 3)).alloc (.cells #[.int .u64 S] 34)) (PackSum w9 S) := by
  have h2 := Blk.new (w10.alloc (.cells #[.int .i64 4] 3)) 34 #[.int .u64 S]
  rw [World.size_alloc] at h2
  have := h.size
  exact pack_sum w9 _ _ _ S hS ((Blk.new w10 _ _).alloc _) h2 ((h.alloc (by omega) _).alloc (by simp; omega) _)
theorem lits3 (w9 w10 : World) (S : Int) (hS : U32 S) (h : Below w9.heap.size w9 w10) :
    Calls Tryd.prog 71 #[.slice (some ⟨w10.heap.size + 1, 0, none⟩) 1 1, .slice (some ⟨w10.heap.size, 0, none⟩) 1 1] ((w10.alloc (.cells #[.int .u64 S] 34)).alloc (.cells #[.int .i64 4] 3)) (PackSum w9 S) := by
  have h2 := Blk.new (w10.alloc (.cells #[.int .u64 S] 34)) 3 #[.int .i64 4]
  rw [World.size_alloc] at h2
  have := h.size
  exact pack_sum w9 _ _ _ S hS h2 ((Blk.new w10 _ _).alloc _) ((h.alloc (by omega) _).alloc (by simp; omega) _)

set_option maxHeartbeats 4000000 in
theorem encode_any (s : Sh) (hs : s.ok) (seq : Int) (hq : 0 ≤ seq ∧ seq ≤ 18446744073709551615) (its : List It) (A : Option Addr) (c : Nat) (w : World) (h : ItsAt w A its) (hok : ∀ i ∈ its, ItOk i) (h0 : 0 < its.length) (hn : its.length ≤ roomN s.bl) :
    Calls Tryd.prog 54 #[.agg #[.int .u64 seq, .slice A its.length c], .int .i64 s.bl] w
      (fun e w' => ∃ A' c', e = .returned (.tuple #[.slice A' s.bl c', .int .u16 0]) ∧ BRow w' w.heap.size A' c' (encR seq its s.bl) ∧ Below w.heap.size w w') := by
  have hfit := roomN_fit hn hs.blk.1
  have hbl := hs.blk
  have HRM := Lib.hid (room_any s hs)
  have HI := Lib.hid h
  have HO := Lib.hid hok
  have HOK := Lib.hid (fun w (h : ItsAt w A its) => itsok_any its A c w h hok (by omega))
  have hnz : ((its.length : Int) == 0) = false := by rw [beq_eq_false_iff_ne]; omega
  have hrn : ¬ ((roomN s.bl : Nat) : Int) < its.length := by omega
  clear h hok hs
  go_enter Tryd.func54, Tryd.ntmps54
  go_wp2_with (fail)
  refine (HRM.out _).mono ?_
  rintro e w' ⟨rfl, rfl⟩
  have hb0 := Blk.new w 117 #[.int .u64 seq, .slice A its.length c]
  have hbl0 := (Below.refl w.heap.size w).alloc (Nat.le_refl _) (.cells #[.int .u64 seq, .slice A its.length c] 117)
  have hi1 := HI.out.below hbl0
  generalize w.alloc (.cells #[.int .u64 seq, .slice A its.length c] 117) = w1 at *
  have c1 : w1.cell? ⟨w.heap.size, 1, none⟩ = some (.slice A its.length c) := hb0.cell 1
  have HB0 := Lib.hid hb0
  have HBL0 := Lib.hid hbl0
  have HI1 := Lib.hid hi1
  clear hb0 hbl0 hi1 HRM
  go_wp2_with (fail)
  refine (HOK.out _ HI1.out).mono ?_
  rintro e w2 ⟨rfl, hb⟩
  have hb0 := HB0.out.below hb HB0.out.lt
  have HBL2 := Lib.hid (HBL0.out.trans (hb.mono HBL0.out.size))
  have HB2 := Lib.hid hb0
  have d0 : w2.cell? ⟨w.heap.size, 0, none⟩ = some (.int .u64 seq) := hb0.cell 0
  have d1 : w2.cell? ⟨w.heap.size, 1, none⟩ = some (.slice A its.length c) := hb0.cell 1
  have hltB : w.heap.size < w2.heap.size := hb0.lt
  clear hb hb0 HOK c1 HB0 HBL0 HI1
  go_wp2_with (fail)
  have HBL3 : Hid (Below w.heap.size w ((w2.alloc (.cells #[.int .i64 4, .int .i64 4, .int .i64 8, .int .i64 2] 3)).alloc (.cells #[.int .u64 1129074503, .int .u64 0, .int .u64 seq, .int .u64 its.length] 34))) := (HBL2.out.alloc (by omega) _).alloc (by simp; omega) _
  have ha := (Blk.new w2 3 #[.int .i64 4, .int .i64 4, .int .i64 8, .int .i64 2]).alloc (.cells #[.int .u64 1129074503, .int .u64 0, .int .u64 seq, .int .u64 its.length] 34)
  have hb := Blk.new (w2.alloc (.cells #[.int .i64 4, .int .i64 4, .int .i64 8, .int .i64 2] 3)) 34 #[.int .u64 1129074503, .int .u64 0, .int .u64 seq, .int .u64 its.length]
  have hb0 := (HB2.out.alloc (.cells #[.int .i64 4, .int .i64 4, .int .i64 8, .int .i64 2] 3)).alloc (.cells #[.int .u64 1129074503, .int .u64 0, .int .u64 seq, .int .u64 its.length] 34)
  rw [World.size_alloc] at hb
  clear d0 d1
  generalize (w2.alloc (.cells #[.int .i64 4, .int .i64 4, .int .i64 8, .int .i64 2] 3)).alloc (.cells #[.int .u64 1129074503, .int .u64 0, .int .u64 seq, .int .u64 its.length] 34) = w3 at *
  refine (pack_any w3 _ _ _ _ 4 4 [4, 4, 8, 2] [1129074503, 0, seq, its.length] (reads_lit ha rfl) (reads_lit hb rfl) (by simp) (by simp) (by simp) (by
    intro x hx
    simp only [List.mem_cons, List.not_mem_nil, or_false] at hx
    rcases hx with rfl | rfl | rfl | rfl <;> omega)).mono ?_
  rintro e w4 ⟨A4, c4, rfl, hr4, hb4⟩
  have hb0 := hb0.below hb4 hb0.lt
  have HBL4 := Lib.hid (HBL3.out.trans (hb4.mono HBL3.out.size))
  have hr4' : BRow w4 (w.heap.size + 1) A4 c4 (frontR seq its 0) := by
    have e : frontR seq its 0 = packS [4, 4, 8, 2] [1129074503, 0, seq, its.length] := by simp [frontR, headR]
    rw [e]
    exact hr4.rebase (fun b hb => by have := (hr4.lt hb).1; have := ha.lt; omega)
  have e0 : packS [4, 4, 8, 2] [1129074503, 0, seq, its.length] = frontR seq its 0 := by simp [frontR, headR]
  rw [e0]
  have HR4 : Hid (BRow w4 (w.heap.size + 1) A4 c4 (frontR seq its 0) ∧ Blk w4 w.heap.size 117 #[.int .u64 seq, .slice A its.length c] ∧ Below w.heap.size w w4) := ⟨hr4', hb0, HBL4.out⟩
  have d1 : w4.cell? ⟨w.heap.size, 1, none⟩ = some (.slice A its.length c) := hb0.cell 1
  have HFL := Lib.hid (fun k h => frontR_length seq its k h)
  clear hr4 hr4' hb0 hb4 ha hb e0 HBL4 HBL3 HB2 HBL2 hltB
  go_wp2_with (fail)
  go_loopw [7, 36] (fun o i wr => ∃ (k : Nat) (A5 : Option Addr) (c5 : Nat), k ≤ its.length ∧ i = .int .i64 k ∧ o = .slice A5 (frontR seq its k).length c5 ∧ Hid (BRow wr (w.heap.size + 1) A5 c5 (frontR seq its k) ∧ Blk wr w.heap.size 117 #[.int .u64 seq, .slice A its.length c] ∧ Below w.heap.size w wr)) (fun _ i _ => its.length - (intOf i).toNat)
  case atStart => exact ⟨0, A4, c4, Nat.zero_le _, rfl, rfl, HR4⟩
  case round =>
    obtain ⟨k, A5, c5, hk, rfl, rfl, hR⟩ := hrel
    clear HR4 d1
    by_cases hlt : k < its.length
    · obtain ⟨g, rfl, hat⟩ := (HI.out.below hR.out.2.2) k hlt
      obtain ⟨i0, i1, i2, i3, i4⟩ := hat
      have HOX := Lib.hid (HO.out _ (getD_mem (d := it0) hlt))
      have HFS := Lib.hid (frontR_succ seq its k hlt)
      have HFK := Lib.hid (HFL.out k hk)
      have hwg : w.heap.size < wr.heap.size := hR.out.2.1.lt
      generalize its.getD k it0 = x at *
      generalize frontR seq its k = F at *
      obtain ⟨xt, xb, xk, xs, xe⟩ := x
      have t0 : 0 ≤ xt := HOX.out.t.1
      have t1 : xt ≤ 4294967295 := HOX.out.t.2
      have k01 : 0 ≤ xk ∧ xk ≤ 255 := by have := HOX.out.kk; simp only at this; omega
      have k0 : 0 ≤ xk := k01.1
      have k1 : xk ≤ 255 := k01.2
      have s0 : 0 ≤ xs := HOX.out.s.1
      have s1 : xs ≤ 4294967295 := HOX.out.s.2
      have e0 : 0 ≤ xe := HOX.out.e.1
      have e1 : xe ≤ 65535 := HOX.out.e.2
      have HBB : Hid (0 ≤ xb ∧ xb ≤ 18446744073709551615) := HOX.out.b
      simp only at i0 i1 i2 i3 i4
      clear k01
      have ha := ((Blk.new (wr.alloc (.cells #[.int .u32 xt, .int .u64 xb, .int .u8 xk, .int .u32 xs, .int .u16 xe] 119)) 3 #[.int .i64 4, .int .i64 8, .int .i64 1, .int .i64 4, .int .i64 2]).alloc (.cells #[.int .u64 xt, .int .u64 xb, .int .u64 xk, .int .u64 xs, .int .u64 xe] 34))
      have hb := Blk.new ((wr.alloc (.cells #[.int .u32 xt, .int .u64 xb, .int .u8 xk, .int .u32 xs, .int .u16 xe] 119)).alloc (.cells #[.int .i64 4, .int .i64 8, .int .i64 1, .int .i64 4, .int .i64 2] 3)) 34 #[.int .u64 xt, .int .u64 xb, .int .u64 xk, .int .u64 xs, .int .u64 xe]
      simp only [World.size_alloc] at ha hb
      have hw3 : Below wr.heap.size wr (((wr.alloc (.cells #[.int .u32 xt, .int .u64 xb, .int .u8 xk, .int .u32 xs, .int .u16 xe] 119)).alloc (.cells #[.int .i64 4, .int .i64 8, .int .i64 1, .int .i64 4, .int .i64 2] 3)).alloc (.cells #[.int .u64 xt, .int .u64 xb, .int .u64 xk, .int .u64 xs, .int .u64 xe] 34)) := (((Below.refl _ wr).alloc (Nat.le_refl _) _).alloc (by simp) _).alloc (by simp; omega) _
      have HP := Lib.hid (And.intro ha (And.intro hb hw3))
      clear ha hb hw3
      go_wp2_with (fail)
      obtain ⟨ha, hb, hw3⟩ := HP.out
      clear HP
      generalize ((wr.alloc (.cells #[.int .u32 xt, .int .u64 xb, .int .u8 xk, .int .u32 xs, .int .u16 xe] 119)).alloc (.cells #[.int .i64 4, .int .i64 8, .int .i64 1, .int .i64 4, .int .i64 2] 3)).alloc (.cells #[.int .u64 xt, .int .u64 xb, .int .u64 xk, .int .u64 xs, .int .u64 xe] 34) = w5 at *
      refine (pack_any w5 _ _ _ _ 5 5 [4, 8, 1, 4, 2] [xt, xb, xk, xs, xe] (reads_lit ha rfl) (reads_lit hb rfl) (by simp) (by simp) (by simp) (by
        have hbb := HBB.out
        intro x hx
        simp only [List.mem_cons, List.not_mem_nil, or_false] at hx
        rcases hx with rfl | rfl | rfl | rfl | rfl <;> omega)).mono ?_
      rintro e w6 ⟨A6, c6, rfl, hr6, hb6⟩
      have HW6 := Lib.hid (hw3.trans (hb6.mono hw3.size))
      have hR6 := hR.out
      have HF6 : Hid (BRow w6 (w.heap.size + 1) A5 c5 F) := hR6.1.below HW6.out (Nat.le_refl _)
      have HRD : Hid (Reads w6 w6.heap.size 1 A6 (packS [4, 8, 1, 4, 2] [xt, xb, xk, xs, xe]).length (nums .u8 (packS [4, 8, 1, 4, 2] [xt, xb, xk, xs, xe]))) := hr6.reads
      have HL6 : Hid (F.length + (packS [4, 8, 1, 4, 2] [xt, xb, xk, xs, xe]).length ≤ 100000000) := by
        have e := itB_length ⟨xt, xb, xk, xs, xe⟩
        unfold itB at e
        have e2 := HFK.out
        unfold Hid
        simp only at e
        omega
      have HBS : Hid (w.heap.size + 1 ≤ w6.heap.size) := by have := HW6.out.size; unfold Hid; omega
      have HIT : Hid (packS [4, 8, 1, 4, 2] [xt, xb, xk, xs, xe] = itB ⟨xt, xb, xk, xs, xe⟩) := rfl
      clear ha hb hw3 hr6 hb6 hR6 i0 i1 i2 i3 i4 t0 t1 k0 k1 s0 s1 e0 e1
      generalize packS [4, 8, 1, 4, 2] [xt, xb, xk, xs, xe] = PK at *
      go_wp2_with (first
        | (at_builtin
           refine wpList_append_u8 w6 rfl (.tmp 40) (.tmp 57) rfl F HF6.out rfl rfl PK rfl HRD.out HL6.out HBS.out ?_
           intro A7 c7 w7 h7 k7 _
           have H7 := Lib.hid h7
           have K7 := Lib.hid k7
           clear h7 k7))
      go_roundw
      case rel =>
        have e : frontR seq its (k + 1) = F ++ PK := by rw [HFS.out, HIT.out]
        have hkk : Kp (fun i => (Value.slice A5 F.length c5).ownBlock = some i) wr w7 := (Kp.of_below (S := fun i => (Value.slice A5 F.length c5).ownBlock = some i) HW6.out).trans K7.out (fun _ _ h => h)
        refine ⟨k + 1, A7, c7, hlt, by go_num, by rw [e]; simp, ?_⟩
        rw [e]
        exact ⟨H7.out, hkk.blk hR.out.2.1 (fun h => by have := (hR.out.1.lt h).1; omega), Kp.below hR.out.2.2 hkk hR.out.2.2.size (fun b hb h => by have := (hR.out.1.lt h).1; omega)⟩
      case measure => simp [intOf]; omega
    · obtain rfl : k = its.length := by omega
      have hF := HFL.out _ (Nat.le_refl _)
      have HFB := Lib.hid (frontR_bd seq its its.length)
      obtain ⟨F, hF0⟩ : ∃ F, frontR seq its its.length = F := ⟨_, rfl⟩
      rw [hF0] at hR hF HFB ⊢
      have HF0 := Lib.hid hF0
      clear hF0 HFL
      have hFb : F.length + 1 ≤ s.bl := by omega
      have hF18 : 18 ≤ F.length := by omega
      have HFF := Lib.hid hF
      clear hF
      obtain ⟨A8, c8, w8, hrun, h8, k8, _⟩ := run_append_zeros_b wr (w.heap.size + 1) c5 (s.bl - F.length) A5 F 35 hR.out.1 (by omega) (by omega) (by have := hR.out.2.1.lt; omega)
      have hsub : (s.bl : Int) - F.length = ((s.bl - F.length : Nat) : Int) := by omega
      have hl8 : (F ++ List.replicate (s.bl - F.length) (0 : Int)).length = s.bl := by simp; omega
      rw [hl8] at hrun
      obtain ⟨m, hm⟩ : ∃ m, s.bl = m + 1 := ⟨s.bl - 1, by omega⟩
      have hm1 : (s.bl : Int) - 1 = (m : Int) := by omega
      obtain ⟨g8, rfl, hc8⟩ := h8.at_ (k := m) (by omega)
      have hf8 := h8.frozen m
      have hb8 : (m : Int) < s.bl := by omega
      have hs9 := h8.set_last (k := m) (by omega) 231
      have hfill : (F ++ List.replicate (s.bl - F.length) 0).set m 231 = fillB F s.bl := by unfold fillB; rw [hm]; rfl
      rw [hfill] at hs9
      have HS9 := Lib.hid hs9
      have HM := Lib.hid hm
      clear hs9 hfill hm
      generalize (F ++ List.replicate (s.bl - F.length) 0).getD m 0 = y8 at hc8
      have HRUN := Lib.hid hrun
      have H8 := Lib.hid h8
      have K8 := Lib.hid k8
      have HL8 := Lib.hid hl8
      clear hrun h8 k8 hl8
      go_wp2_with (first
        | (at_builtin
           refine Lib.wpList_append_run wr rfl (.tmp 60) (.tmp 64) _ _ rfl _ _ rfl rfl _ _ HRUN.out ?_))
      have hw9 : Below w.heap.size w (w8.setCell ⟨g8, m, none⟩ (.int .u8 231)) := by
        have k1 := Kp.below hR.out.2.2 K8.out hR.out.2.2.size (fun b hb h => by have := (hR.out.1.lt h).1; omega)
        exact k1.setCell (p := ⟨g8, m, none⟩) (by have := (H8.out.lt (b := g8) rfl).1; show w.heap.size ≤ g8; omega) _
      have HW9 := Lib.hid hw9
      clear hw9 hc8 hf8
      generalize w8.setCell ⟨g8, m, none⟩ (.int .u8 231) = w9 at *
      have hlB : (fillB F s.bl).length = s.bl := fillB_length F s.bl (by omega)
      have hbB : ∀ x ∈ fillB F s.bl, ByteOk x := fillB_bd F s.bl HFB.out
      have hcb : s.bl ≤ c8 := by
        rcases HS9.out.2 with ⟨_, h0⟩ | ⟨g', cap, cur, hv, _, _, hnc, _⟩
        · omega
        · injection hv with _ _ e3
          subst e3
          rw [hlB] at hnc
          exact hnc
      obtain ⟨S, hS⟩ : ∃ S, sumS 0 ((fillB F s.bl).take 4 ++ [0, 0, 0, 0] ++ (fillB F s.bl).drop 8) = S := ⟨_, rfl⟩
      have hSb : U32 S := by
        rw [← hS]
        refine sumS_bd _ _ ⟨by omega, by omega⟩ (fun x hx => ?_)
        simp only [List.mem_append, List.mem_cons, List.not_mem_nil, or_false] at hx
        rcases hx with (hx | hx) | hx
        · exact hbB x (List.mem_of_mem_take hx)
        · rcases hx with rfl | rfl | rfl | rfl <;> exact ⟨by omega, by omega⟩
        · exact hbB x (List.mem_of_mem_drop hx)
      have HSUM : Hid (∀ u, Below w9.heap.size w9 u → Calls Tryd.prog 72 #[.slice (some ⟨g8, 0, none⟩) s.bl c8] u (Makes (.int .u32 S) u)) := fun u hu => by
        have hr := (HS9.out.below hu (Nat.le_refl _)).reads
        rw [hlB] at hr
        have := rsum_any u _ _ s.bl c8 _ hr (by omega) (by omega) hcb hbB
        rw [hS] at this
        exact this
      have HSB := Lib.hid hSb
      have HS := Lib.hid hS
      have hsl : ∀ u : World, (Instr.slice 35 (.slice (some ⟨g8, 0, none⟩) s.bl c8) (some (.int .i64 4)) none none).run Tryd.prog u = .ok (.slice (if c8 = 4 then some ⟨g8, 0, none⟩ else (some (⟨g8, 0, none⟩ : Addr)).map (·.add 4)) (s.bl - 4) (c8 - 4)) u := run_back_u8 (some ⟨g8, 0, none⟩) s.bl c8 4 (by omega)
      have e4 : (if c8 = 4 then some (⟨g8, 0, none⟩ : Addr) else (some (⟨g8, 0, none⟩ : Addr)).map (·.add 4)) = some ⟨g8, 4, none⟩ := by
        rw [if_neg (by omega), Option.map_some, add0]
      rw [e4] at hsl
      have hwS : IntKind.u64.wrap S = S := IntWalk.u64_in S (by have := hSb.1; have := hSb.2; omega)
      clear hbB hS hSb e4
      have HSUMa := Lib.hid (HSUM.out (w9.alloc (.cells #[.int .i64 4] 3)).drew ((Below.refl _ _).alloc (Nat.le_refl _) _).drew)
      have HSUMb := Lib.hid (HSUM.out w9.drew (Below.refl _ _).drew)
      have HB8 : Hid (8 ≤ (fillB F s.bl).length) := by unfold Hid; rw [hlB]; omega
      go_region_held3 (fun _ => True) (trivial)
        (first
          | (go_at_call 72
             with_reducible refine HSUMa.out.mono ?_
             rintro e w10 ⟨rfl, hb10⟩
             have HPA := Lib.hid (lits1 w9 w10 S HSB.out hb10)
             clear hb10)
          | (go_at_call 72
             with_reducible refine HSUMb.out.mono ?_
             rintro e w10 ⟨rfl, hb10⟩
             have HPB := Lib.hid (lits2 w9 w10 S HSB.out ((Below.refl _ w9).drew.trans hb10))
             have HPC := Lib.hid (lits3 w9 w10 S HSB.out ((Below.refl _ w9).drew.trans hb10))
             clear hb10)
          | (go_at_call 71
             with_reducible refine HPA.out.mono ?_
             rintro e w11 ⟨A11, c11, rfl, hrd, h911⟩
             obtain ⟨w12, hcp, hb12, hk12⟩ := run_copy_sum w11 _ g8 c8 _ (HS9.out.below h911 (Nat.le_refl _)) HB8.out _ c11 S _ hrd 3
             rw [hlB] at hcp
             have H12 := Lib.hid (And.intro hb12 (And.intro hk12 h911))
             clear h911 hrd hb12 hk12)
          | (go_at_call 71
             with_reducible refine HPB.out.mono ?_
             rintro e w11 ⟨A11, c11, rfl, hrd, h911⟩
             obtain ⟨w12, hcp, hb12, hk12⟩ := run_copy_sum w11 _ g8 c8 _ (HS9.out.below h911 (Nat.le_refl _)) HB8.out _ c11 S _ hrd 3
             rw [hlB] at hcp
             have H12 := Lib.hid (And.intro hb12 (And.intro hk12 h911))
             clear h911 hrd hb12 hk12)
          | (go_at_call 71
             with_reducible refine HPC.out.mono ?_
             rintro e w11 ⟨A11, c11, rfl, hrd, h911⟩
             obtain ⟨w12, hcp, hb12, hk12⟩ := run_copy_sum w11 _ g8 c8 _ (HS9.out.below h911 (Nat.le_refl _)) HB8.out _ c11 S _ hrd 3
             rw [hlB] at hcp
             have H12 := Lib.hid (And.intro hb12 (And.intro hk12 h911))
             clear h911 hrd hb12 hk12))
      all_goals
        clear hcp
        go_wp2
        go_ret2
        have he : encR seq its s.bl = sumB (fillB F s.bl) S := by unfold encR; rw [HF0.out, HS.out]
        rw [he]
        refine ⟨some ⟨g8, 0, none⟩, c8, rfl, H12.out.1.rebase (fun b hb => by have := (H12.out.1.lt hb).1; omega), ?_⟩
        have h1 := HW9.out.trans (H12.out.2.2.mono HW9.out.size)
        exact Kp.below h1 H12.out.2.1 h1.size (fun b hb e => by have := (HS9.out.lt (b := g8) rfl).1; omega)
end Go.Proofs.YtgjcofoicnnnhaaDoor

/- Package ckpt: a checkpoint's block without places. -/
namespace Go.Proofs.YtgjcofoicnnnhaaDoor
open Go.RowKit
set_option maxRecDepth 20000

def headC (at_ many seq : Int) (n : Nat) : List Int := packS [4, 4, 4, 4, 8, 2] [1129009236, 0, at_, many, seq, n]
theorem headC_length (at_ many seq : Int) (n : Nat) : (headC at_ many seq n).length = 26 := by simp [headC, packS, beB_length, widthN]
/-- A front, filled, summed. -/
def doneB (f : List Int) (bl : Nat) : List Int := sumB (fillB f bl) (sumS 0 (fillB f bl))
theorem doneB_length (f : List Int) (bl : Nat) (h : f.length ≤ bl) (hb : 8 ≤ bl) : (doneB f bl).length = bl := by
  have h2 := fillB_length f bl h
  unfold doneB
  rw [sumB_length _ _ (by omega), h2]
theorem doneB_bd (f : List Int) (bl : Nat) (h : ∀ x ∈ f, ByteOk x) : ∀ x ∈ doneB f bl, ByteOk x := sumB_bd _ _ (fillB_bd _ _ h)

theorem three (w : World) (t1 t2 t3 : TypeId) (c1 c2 c3 : Array Value) : Blk (((w.alloc (.cells c1 t1)).alloc (.cells c2 t2)).alloc (.cells c3 t3)).drew w.heap.size t1 c1 ∧ Blk (((w.alloc (.cells c1 t1)).alloc (.cells c2 t2)).alloc (.cells c3 t3)).drew (w.heap.size + 1) t2 c2 ∧
    Blk (((w.alloc (.cells c1 t1)).alloc (.cells c2 t2)).alloc (.cells c3 t3)).drew (w.heap.size + 1 + 1) t3 c3 ∧ Below w.heap.size w (((w.alloc (.cells c1 t1)).alloc (.cells c2 t2)).alloc (.cells c3 t3)).drew := by
  have h2 := Blk.new (w.alloc (.cells c1 t1)) t2 c2
  have h3 := Blk.new ((w.alloc (.cells c1 t1)).alloc (.cells c2 t2)) t3 c3
  rw [World.size_alloc] at h2
  rw [World.size_alloc, World.size_alloc] at h3
  exact ⟨(((Blk.new w t1 c1).alloc _).alloc _).drew, (h2.alloc _).drew, h3.drew, ((((Below.refl _ w).alloc (Nat.le_refl _) _).alloc (by simp) _).alloc (by simp; omega) _).drew⟩
theorem two (w : World) (t1 t2 : TypeId) (c1 c2 : Array Value) : Blk ((w.alloc (.cells c1 t1)).alloc (.cells c2 t2)).drew w.heap.size t1 c1 ∧ Blk ((w.alloc (.cells c1 t1)).alloc (.cells c2 t2)).drew (w.heap.size + 1) t2 c2 ∧ Below w.heap.size w ((w.alloc (.cells c1 t1)).alloc (.cells c2 t2)).drew := by
  have h2 := Blk.new (w.alloc (.cells c1 t1)) t2 c2
  rw [World.size_alloc] at h2
  exact ⟨((Blk.new w t1 c1).alloc _).drew, h2.drew, (((Below.refl _ w).alloc (Nat.le_refl _) _).alloc (by simp) _).drew⟩

/-- The sum of one list. -/
theorem sum_one (u : World) (g : Nat) (A : Option Addr) (c n : Nat) (b : List Int) (B : Nat) (h : Blk u g 35 #[.slice A n c]) (hr : Reads u B 1 A n (nums .u8 b)) (hb : ∀ x ∈ b, ByteOk x) (hn : n ≤ 100000000) :
    Calls Tryd.prog 66 #[.slice (some ⟨g, 0, none⟩) 1 1] u (fun e w' => e = .returned (.int .u32 (sumS 0 b)) ∧ u = w') := by
  have hl : b.length = n := by have := hr.1; rw [nums_length] at this; omega
  have := sum_any u B (some ⟨g, 0, none⟩) 1 [b] (listsAt_blk h fun i hi => by
    match i, hi with
    | 0, _ => exact ⟨A, c, by simp [hl], by simpa [hl] using hr⟩) (by simpa using hb) (by simp) (by simp; omega)
  simpa using this

set_option maxHeartbeats 4000000 in
theorem block_nil (s : Sh) (hs : s.ok) (at_ many seq : Int) (h1 : 0 ≤ at_ ∧ at_ ≤ 65535) (h2 : 0 ≤ many ∧ many ≤ 65535) (hq : 0 ≤ seq ∧ seq ≤ 18446744073709551615) (w : World) :
    Calls Tryd.prog 59 #[shV s, .agg #[.int .i64 at_, .int .i64 many, .int .u64 seq], .slice none 0 0] w
      (fun e w' => ∃ A' c', e = .returned (.slice A' s.bl c') ∧ BRow w' w.heap.size A' c' (doneB (headC at_ many seq 0) s.bl) ∧ Below w.heap.size w w') := by
  have hbl := hs.blk
  unfold shV
  clear hs
  obtain ⟨q0, q1⟩ := hq
  have hwa : IntKind.u64.wrap at_ = at_ := IntWalk.u64_in at_ (by omega)
  have hwm : IntKind.u64.wrap many = many := IntWalk.u64_in many (by omega)
  go_enter Tryd.func59, Tryd.ntmps59
  go_wp2_with (fail)
  have hbs := (((Blk.new w 23 #[.int .i64 s.z, .int .i64 s.zb, .int .i64 s.bl, .int .i64 s.rs]).alloc (.cells #[.int .i64 at_, .int .i64 many, .int .u64 seq] 127)).alloc (.cells #[.int .i64 4, .int .i64 4, .int .i64 4, .int .i64 4, .int .i64 8, .int .i64 2] 3)).alloc (.cells #[.int .u64 1129009236, .int .u64 0, .int .u64 at_, .int .u64 many, .int .u64 seq, .int .u64 0] 34)
  have ha := (Blk.new ((w.alloc (.cells #[.int .i64 s.z, .int .i64 s.zb, .int .i64 s.bl, .int .i64 s.rs] 23)).alloc (.cells #[.int .i64 at_, .int .i64 many, .int .u64 seq] 127)) 3 #[.int .i64 4, .int .i64 4, .int .i64 4, .int .i64 4, .int .i64 8, .int .i64 2]).alloc (.cells #[.int .u64 1129009236, .int .u64 0, .int .u64 at_, .int .u64 many, .int .u64 seq, .int .u64 0] 34)
  have hb := Blk.new (((w.alloc (.cells #[.int .i64 s.z, .int .i64 s.zb, .int .i64 s.bl, .int .i64 s.rs] 23)).alloc (.cells #[.int .i64 at_, .int .i64 many, .int .u64 seq] 127)).alloc (.cells #[.int .i64 4, .int .i64 4, .int .i64 4, .int .i64 4, .int .i64 8, .int .i64 2] 3)) 34 #[.int .u64 1129009236, .int .u64 0, .int .u64 at_, .int .u64 many, .int .u64 seq, .int .u64 0]
  have hw0 : Below w.heap.size w ((((w.alloc (.cells #[.int .i64 s.z, .int .i64 s.zb, .int .i64 s.bl, .int .i64 s.rs] 23)).alloc (.cells #[.int .i64 at_, .int .i64 many, .int .u64 seq] 127)).alloc (.cells #[.int .i64 4, .int .i64 4, .int .i64 4, .int .i64 4, .int .i64 8, .int .i64 2] 3)).alloc (.cells #[.int .u64 1129009236, .int .u64 0, .int .u64 at_, .int .u64 many, .int .u64 seq, .int .u64 0] 34)) :=
    ((((Below.refl _ w).alloc (Nat.le_refl _) _).alloc (by simp) _).alloc (by simp; omega) _).alloc (by simp; omega) _
  simp only [World.size_alloc] at ha hb
  generalize (((w.alloc (.cells #[.int .i64 s.z, .int .i64 s.zb, .int .i64 s.bl, .int .i64 s.rs] 23)).alloc (.cells #[.int .i64 at_, .int .i64 many, .int .u64 seq] 127)).alloc (.cells #[.int .i64 4, .int .i64 4, .int .i64 4, .int .i64 4, .int .i64 8, .int .i64 2] 3)).alloc (.cells #[.int .u64 1129009236, .int .u64 0, .int .u64 at_, .int .u64 many, .int .u64 seq, .int .u64 0] 34) = w3 at *
  refine (pack_any w3 _ _ _ _ 6 6 [4, 4, 4, 4, 8, 2] [1129009236, 0, at_, many, seq, 0] (reads_lit ha rfl) (reads_lit hb rfl) (by simp) (by simp) (by simp) (by
    intro x hx
    simp only [List.mem_cons, List.not_mem_nil, or_false] at hx
    rcases hx with rfl | rfl | rfl | rfl | rfl | rfl <;> omega)).mono ?_
  rintro e w4 ⟨A5, c5, rfl, hr4, hb4⟩
  have e0 : packS [4, 4, 4, 4, 8, 2] [1129009236, 0, at_, many, seq, 0] = headC at_ many seq 0 := rfl
  rw [e0] at hr4 ⊢
  have HFB : Hid (∀ x ∈ headC at_ many seq 0, ByteOk x) := packS_bd _ _
  have hF := headC_length at_ many seq 0
  have hR0 : Hid (BRow w4 (w.heap.size + 1) A5 c5 (headC at_ many seq 0) ∧ Blk w4 w.heap.size 23 #[.int .i64 s.z, .int .i64 s.zb, .int .i64 s.bl, .int .i64 s.rs] ∧ Below w.heap.size w w4) :=
    ⟨hr4.rebase (fun b hb => by have := (hr4.lt hb).1; have := ha.lt; omega), hbs.below hb4 hbs.lt, hw0.trans (hb4.mono hw0.size)⟩
  obtain ⟨F, hF0⟩ : ∃ F, headC at_ many seq 0 = F := ⟨_, rfl⟩
  rw [hF0] at hR0 hF HFB ⊢
  have HF0 := Lib.hid hF0
  have hF1 : 26 ≤ F.length := by omega
  have hF2 : F.length ≤ 26 := by omega
  clear hF0 hF e0 hr4 hb4 ha hb hbs hw0 hwa hwm
  go_wp2_with (fail)
  go_loopw [7, 26] (fun o i wr => i = .int .i64 0 ∧ o = .slice A5 F.length c5 ∧ wr = w4) (fun _ _ _ => 0)
  case atStart => exact ⟨rfl, rfl, rfl⟩
  case round =>
    obtain ⟨rfl, rfl, rfl⟩ := hrel
    have hR := hR0
    clear hR0
    have hFb : F.length + 1 ≤ s.bl := by omega
    obtain ⟨A8, c8, w8, hrun, h8, k8, _⟩ := run_append_zeros_b wr (w.heap.size + 1) c5 (s.bl - F.length) A5 F 35 hR.out.1 (by omega) (by omega) (by have := hR.out.2.1.lt; omega)
    have hsub : (s.bl : Int) - F.length = ((s.bl - F.length : Nat) : Int) := by omega
    have hl8 : (F ++ List.replicate (s.bl - F.length) (0 : Int)).length = s.bl := by simp; omega
    rw [hl8] at hrun
    obtain ⟨m, hm⟩ : ∃ m, s.bl = m + 1 := ⟨s.bl - 1, by omega⟩
    have hm1 : (s.bl : Int) - 1 = (m : Int) := by omega
    obtain ⟨g8, rfl, hc8⟩ := h8.at_ (k := m) (by omega)
    have hf8 := h8.frozen m
    have hb8 : (m : Int) < s.bl := by omega
    have hs9 := h8.set_last (k := m) (by omega) 231
    have hfill : (F ++ List.replicate (s.bl - F.length) 0).set m 231 = fillB F s.bl := by unfold fillB; rw [hm]; rfl
    rw [hfill] at hs9
    have HS9 := Lib.hid hs9
    have HM := Lib.hid hm
    clear hs9 hfill hm
    generalize (F ++ List.replicate (s.bl - F.length) 0).getD m 0 = y8 at hc8
    have HRUN := Lib.hid hrun
    have H8 := Lib.hid h8
    have K8 := Lib.hid k8
    have HL8 := Lib.hid hl8
    clear hrun h8 k8 hl8
    have hb38 : Blk w8 w.heap.size 23 #[.int .i64 s.z, .int .i64 s.zb, .int .i64 s.bl, .int .i64 s.rs] := K8.out.blk hR.out.2.1 (fun h => by have := (hR.out.1.lt h).1; omega)
    have hz8 : w8.cell? ⟨w.heap.size, 2, none⟩ = some (.int .i64 s.bl) := hb38.cell 2
    have hz7 : wr.cell? ⟨w.heap.size, 2, none⟩ = some (.int .i64 s.bl) := hR.out.2.1.cell 2
    clear hb38
    go_wp2_with (first
      | (at_builtin
         refine Lib.wpList_append_run wr rfl (.tmp 49) (.tmp 54) _ _ rfl _ _ rfl rfl _ _ HRUN.out ?_))
    clear hz8 hz7
    have hw9 : Below w.heap.size w (w8.setCell ⟨g8, m, none⟩ (.int .u8 231)) := by
      have k1 := Kp.below hR.out.2.2 K8.out hR.out.2.2.size (fun b hb h => by have := (hR.out.1.lt h).1; omega)
      exact k1.setCell (p := ⟨g8, m, none⟩) (by have := (H8.out.lt (b := g8) rfl).1; show w.heap.size ≤ g8; omega) _
    have HW9 := Lib.hid hw9
    clear hw9 hc8 hf8
    generalize w8.setCell ⟨g8, m, none⟩ (.int .u8 231) = w9 at *
    have hlB : (fillB F s.bl).length = s.bl := fillB_length F s.bl (by omega)
    have hbB : ∀ x ∈ fillB F s.bl, ByteOk x := fillB_bd F s.bl HFB.out
    have hcb : s.bl ≤ c8 := by
      rcases HS9.out.2 with ⟨_, h0⟩ | ⟨g', cap, cur, hv, _, _, hnc, _⟩
      · omega
      · injection hv with _ _ e3
        subst e3
        rw [hlB] at hnc
        exact hnc
    obtain ⟨S, hS⟩ : ∃ S, sumS 0 (fillB F s.bl) = S := ⟨_, rfl⟩
    have hSb : U32 S := by
      rw [← hS]
      exact sumS_bd _ _ ⟨by omega, by omega⟩ hbB
    have hrd9 : Reads w9 w9.heap.size 1 (some ⟨g8, 0, none⟩) s.bl (nums .u8 (fillB F s.bl)) := by
      have := HS9.out.reads
      rw [hlB] at this
      exact this
    have HSUM : Hid (∀ u g, Below w9.heap.size w9 u → Blk u g 35 #[.slice (some ⟨g8, 0, none⟩) s.bl c8] → Calls Tryd.prog 66 #[.slice (some ⟨g, 0, none⟩) 1 1] u (fun e w' => e = .returned (.int .u32 S) ∧ u = w')) := fun u g hu hg => by
      have := sum_one u g _ c8 s.bl (fillB F s.bl) _ hg (hrd9.below hu) hbB (by omega)
      rw [hS] at this
      exact this
    have HSB := Lib.hid hSb
    have HS := Lib.hid hS
    have hsl : ∀ u : World, (Instr.slice 35 (.slice (some ⟨g8, 0, none⟩) s.bl c8) (some (.int .i64 4)) none none).run Tryd.prog u = .ok (.slice (if c8 = 4 then some ⟨g8, 0, none⟩ else (some (⟨g8, 0, none⟩ : Addr)).map (·.add 4)) (s.bl - 4) (c8 - 4)) u := run_back_u8 (some ⟨g8, 0, none⟩) s.bl c8 4 (by omega)
    have e4 : (if c8 = 4 then some (⟨g8, 0, none⟩ : Addr) else (some (⟨g8, 0, none⟩ : Addr)).map (·.add 4)) = some ⟨g8, 4, none⟩ := by
      rw [if_neg (by omega), Option.map_some, add0]
    rw [e4] at hsl
    have hwS : IntKind.u64.wrap S = S := IntWalk.u64_in S (by have := hSb.1; have := hSb.2; omega)
    clear hbB hS hSb e4
    have HS1 := Lib.hid (HSUM.out _ _ (two w9 3 35 #[.int .i64 4] #[.slice (some ⟨g8, 0, none⟩) s.bl c8]).2.2 (two w9 3 35 #[.int .i64 4] #[.slice (some ⟨g8, 0, none⟩) s.bl c8]).2.1)
    have HS2 := Lib.hid (HSUM.out _ _ (two w9 35 3 #[.slice (some ⟨g8, 0, none⟩) s.bl c8] #[.int .i64 4]).2.2 (two w9 35 3 #[.slice (some ⟨g8, 0, none⟩) s.bl c8] #[.int .i64 4]).1)
    have HS3 := Lib.hid (HSUM.out (w9.alloc (.cells #[.slice (some ⟨g8, 0, none⟩) s.bl c8] 35)).drew w9.heap.size ((Below.refl _ _).alloc (Nat.le_refl _) _).drew (Blk.new w9 _ _).drew)
    have HP1 := Lib.hid (pack_sum w9 _ _ _ S HSB.out (three w9 3 35 34 #[.int .i64 4] #[.slice (some ⟨g8, 0, none⟩) s.bl c8] #[.int .u64 S]).1 (three w9 3 35 34 #[.int .i64 4] #[.slice (some ⟨g8, 0, none⟩) s.bl c8] #[.int .u64 S]).2.2.1 (three w9 3 35 34 #[.int .i64 4] #[.slice (some ⟨g8, 0, none⟩) s.bl c8] #[.int .u64 S]).2.2.2)
    have HP2 := Lib.hid (pack_sum w9 _ _ _ S HSB.out (three w9 35 3 34 #[.slice (some ⟨g8, 0, none⟩) s.bl c8] #[.int .i64 4] #[.int .u64 S]).2.1 (three w9 35 3 34 #[.slice (some ⟨g8, 0, none⟩) s.bl c8] #[.int .i64 4] #[.int .u64 S]).2.2.1 (three w9 35 3 34 #[.slice (some ⟨g8, 0, none⟩) s.bl c8] #[.int .i64 4] #[.int .u64 S]).2.2.2)
    have HP3 := Lib.hid (pack_sum w9 _ _ _ S HSB.out (three w9 35 34 3 #[.slice (some ⟨g8, 0, none⟩) s.bl c8] #[.int .u64 S] #[.int .i64 4]).2.2.1 (three w9 35 34 3 #[.slice (some ⟨g8, 0, none⟩) s.bl c8] #[.int .u64 S] #[.int .i64 4]).2.1 (three w9 35 34 3 #[.slice (some ⟨g8, 0, none⟩) s.bl c8] #[.int .u64 S] #[.int .i64 4]).2.2.2)
    have HB8 : Hid (8 ≤ (fillB F s.bl).length) := by unfold Hid; rw [hlB]; omega
    go_region_held3 (fun _ => True) (trivial)
      (first
        | (go_at_call 66
           with_reducible refine HS1.out.mono ?_
           rintro e w10 ⟨rfl, rfl⟩)
        | (go_at_call 66
           with_reducible refine HS2.out.mono ?_
           rintro e w10 ⟨rfl, rfl⟩)
        | (go_at_call 66
           with_reducible refine HS3.out.mono ?_
           rintro e w10 ⟨rfl, rfl⟩)
        | (go_at_call 71
           with_reducible refine HP1.out.mono ?_
           rintro e w11 ⟨A11, c11, rfl, hrd, h911⟩
           obtain ⟨w12, hcp, hb12, hk12⟩ := run_copy_sum w11 _ g8 c8 _ (HS9.out.below h911 (Nat.le_refl _)) HB8.out _ c11 S _ hrd 3
           rw [hlB] at hcp
           have H12 := Lib.hid (And.intro hb12 (And.intro hk12 h911))
           clear h911 hrd hb12 hk12)
        | (go_at_call 71
           with_reducible refine HP2.out.mono ?_
           rintro e w11 ⟨A11, c11, rfl, hrd, h911⟩
           obtain ⟨w12, hcp, hb12, hk12⟩ := run_copy_sum w11 _ g8 c8 _ (HS9.out.below h911 (Nat.le_refl _)) HB8.out _ c11 S _ hrd 3
           rw [hlB] at hcp
           have H12 := Lib.hid (And.intro hb12 (And.intro hk12 h911))
           clear h911 hrd hb12 hk12)
        | (go_at_call 71
           with_reducible refine HP3.out.mono ?_
           rintro e w11 ⟨A11, c11, rfl, hrd, h911⟩
           obtain ⟨w12, hcp, hb12, hk12⟩ := run_copy_sum w11 _ g8 c8 _ (HS9.out.below h911 (Nat.le_refl _)) HB8.out _ c11 S _ hrd 3
           rw [hlB] at hcp
           have H12 := Lib.hid (And.intro hb12 (And.intro hk12 h911))
           clear h911 hrd hb12 hk12))
    all_goals
      clear hcp
      go_wp2
      go_ret
      have he : doneB (headC at_ many seq 0) s.bl = sumB (fillB F s.bl) S := by unfold doneB; rw [HF0.out, HS.out]
      rw [he]
      refine ⟨some ⟨g8, 0, none⟩, c8, rfl, H12.out.1.rebase (fun b hb => by have := (H12.out.1.lt hb).1; omega), ?_⟩
      have h1 := HW9.out.trans (H12.out.2.2.mono HW9.out.size)
      exact Kp.below h1 H12.out.2.1 h1.size (fun b hb e => by have := (HS9.out.lt (b := g8) rfl).1; omega)
end Go.Proofs.YtgjcofoicnnnhaaDoor

/- Package zone's device: how many blocks a zone has; reading, appending. -/
namespace Go.Proofs.YtgjcofoicnnnhaaDoor
open Go.RowKit
set_option maxRecDepth 20000

theorem zat_any (X : Nat → Prop) (w : World) (d : Nat) (s : Sh) (P : List Part) (z : Nat) (hz : z < P.length) (h : DevIs X w d s P) :
    Calls Tryd.prog 24 #[.pointer (some ⟨d, 0, none⟩), .int .i64 z] w (Makes (.tuple #[.int .i64 ((P.getD z pt0).bs.length : Nat), .int .i64 ((P.getD z pt0).du : Nat)]) w) := by
  have HH := Lib.hid (has_any X w d s P z h)
  obtain ⟨p, V, cs, hv⟩ := h
  obtain ⟨A, c, hA, hC⟩ := pcount_at hv hz
  have h4 := hv.t4
  have r0 := hv.r0 hz
  have r1 := hv.r1 hz
  rw [hA] at r0
  have HC := Lib.hid hC
  have HD : Hid (decide ((0 : Int) ≤ z ∧ (z : Int) < P.length) = true) := decide_eq_true (by omega)
  have hlen : P.length ≤ 256 := by have := hv.sz; have := hv.ok.facts; omega
  clear hC hA hv
  generalize (P.getD z pt0).by.length = n at *
  generalize (P.getD z pt0).bs.length = m at *
  generalize (P.getD z pt0).du = du at *
  have ks : w.cell? ⟨d, 4, none⟩ = some (.slice (some ⟨p, 0, none⟩) P.length P.length) ∧ w.cell? ⟨p, z * 2, none⟩ = some (.slice A n c) ∧ w.cell? ⟨p, z * 2 + 1, none⟩ = some (.int .i64 du) := ⟨h4, r0, r1⟩
  clear h4 r0 r1
  go_enter Tryd.func24, Tryd.ntmps24
  go_wp2_with (fail)
  refine HH.out.mono ?_
  rintro e w' ⟨rfl, rfl⟩
  rw [HD.out]
  go_upto_region 3 with (fail)
  have HC2 := Lib.hid (HC.out w.drew du ((Below.refl _ w).drew))
  go_region_held3 (fun u => u.cell? ⟨d, 4, none⟩ = some (.slice (some ⟨p, 0, none⟩) P.length P.length) ∧ u.cell? ⟨p, z * 2, none⟩ = some (.slice A n c) ∧ u.cell? ⟨p, z * 2 + 1, none⟩ = some (.int .i64 du))
    (first | exact ks | exact ks2)
    (first
      | (go_at_call 39
         with_reducible refine HC2.out.mono ?_
         rintro e w9 ⟨rfl, hb⟩
         have ks2 : w9.cell? ⟨d, 4, none⟩ = some (.slice (some ⟨p, 0, none⟩) P.length P.length) ∧ w9.cell? ⟨p, z * 2, none⟩ = some (.slice A n c) ∧ w9.cell? ⟨p, z * 2 + 1, none⟩ = some (.int .i64 du) := ⟨below_keep hb ks.1, below_keep hb ks.2.1, below_keep hb ks.2.2⟩
         have HB := Lib.hid hb
         clear hb))
  all_goals
    go_wp2
    go_ret2
    exact ⟨rfl, (Below.refl _ w).drew.trans HB.out⟩
end Go.Proofs.YtgjcofoicnnnhaaDoor

/- Package zone's device: appending a block. -/
namespace Go.Proofs.YtgjcofoicnnnhaaDoor
open Go.RowKit
set_option maxRecDepth 20000

/-- A block behind a zone's others. -/
def appP (P : List Part) (z : Nat) (data : List Int) : List Part := P.set z ⟨(P.getD z pt0).bs ++ [data], (P.getD z pt0).du⟩
theorem appP_length (P : List Part) (z : Nat) (data : List Int) : (appP P z data).length = P.length := by simp [appP]
theorem getD_set_same {α : Type} (l : List α) (z : Nat) (x d : α) (h : z < l.length) : (l.set z x).getD z d = x := by simp [List.getD_eq_getElem?_getD, h]
theorem getD_set_other {α : Type} (l : List α) (z i : Nat) (x d : α) (h : z ≠ i) : (l.set z x).getD i d = l.getD i d := by simp [List.getD_eq_getElem?_getD, List.getElem?_set_ne h]
theorem appP_same (P : List Part) (z : Nat) (data : List Int) (h : z < P.length) : (appP P z data).getD z pt0 = ⟨(P.getD z pt0).bs ++ [data], (P.getD z pt0).du⟩ := getD_set_same _ _ _ _ h
theorem appP_other (P : List Part) (z i : Nat) (data : List Int) (h : z ≠ i) : (appP P z data).getD i pt0 = P.getD i pt0 := getD_set_other _ _ _ _ _ h
theorem by_app (p : Part) (data : List Int) : (Part.mk (p.bs ++ [data]) p.du).by = p.by ++ data := by simp [Part.by]
theorem PartOk.app {s : Sh} {p : Part} (h : PartOk s p) {data : List Int} (hd : data.length = s.bl) (hb : ∀ x ∈ data, ByteOk x) (hr : p.bs.length < s.zb) : PartOk s ⟨p.bs ++ [data], p.du⟩ := by
  refine ⟨fun b hb' => ?_, by simp; omega, by have := h.du; simp; omega, fun b hb' => ?_⟩
  · rcases List.mem_append.1 hb' with h1 | h1
    · exact h.len b h1
    · rw [List.mem_singleton.1 h1]; exact hd
  · rcases List.mem_append.1 hb' with h1 | h1
    · exact h.byt b h1
    · rw [List.mem_singleton.1 h1]; exact hb

section
variable {X : Nat → Prop} {w w1 : World} {d p : Nat} {V : Nat → Value} {cs : Array Value} {s : Sh} {P : List Part}
/-- A zone's bytes have grown, and its cell is told so. -/
theorem DevV.grow (h : DevV X w d p V cs s P) {z : Nat} (hz : z < P.length) {A1 : Option Addr} {c1 : Nat} {data : List Int} (hd : data.length = s.bl) (hb : ∀ x ∈ data, ByteOk x) (hr : (P.getD z pt0).bs.length < s.zb)
    (hown : BRow w1 0 A1 c1 ((P.getD z pt0).by ++ data)) (hk : Kp (fun i => (V z).ownBlock = some i) w w1)
    (hat : (Value.slice A1 ((P.getD z pt0).by ++ data).length c1).ownBlock = (V z).ownBlock ∨ (∃ g, (Value.slice A1 ((P.getD z pt0).by ++ data).length c1).ownBlock = some g ∧ w.heap.size ≤ g)) :
    DevIs X (w1.setCell ⟨p, z * 2, none⟩ (.slice A1 ((P.getD z pt0).by ++ data).length c1)) d s (appP P z data) := by
  have hp1 : Blk w1 p 89 cs := hk.blk h.row (fun e => (h.nx z hz p e).2.2 rfl)
  have hd1 := hk.blk h.top (fun e => (h.nx z hz d e).2.1 rfl)
  have hlen := appP_length P z data
  have hnb : ∀ b, (Value.slice A1 ((P.getD z pt0).by ++ data).length c1).ownBlock = some b → ¬ X b ∧ b ≠ d ∧ b ≠ p ∧ ∀ j, j < P.length → z ≠ j → (V j).ownBlock ≠ some b := by
    intro b hb1
    rcases hat with e | ⟨g, e, hg⟩
    · rw [e] at hb1
      have := h.nx z hz b hb1
      exact ⟨this.1, this.2.1, this.2.2, fun j hj hne => h.dj z j hz hj hne b hb1⟩
    · rw [e] at hb1
      obtain rfl : g = b := by injection hb1
      refine ⟨fun hx => ?_, ?_, ?_, fun j hj hne e2 => ?_⟩
      · have := h.cl g hx; omega
      · have := h.top.lt; omega
      · have := h.row.lt; omega
      · have := h.vlt hj e2; omega
  refine ⟨p, fun i => if i = z then .slice A1 ((P.getD z pt0).by ++ data).length c1 else V i, cs.setIfInBounds (z * 2) (.slice A1 ((P.getD z pt0).by ++ data).length c1), ?_⟩
  refine ⟨?_, hp1.set_ _ _, by simp [h.cz, hlen], ?_, ?_, ?_, ?_, ?_, h.xd, h.xp, fun b hx => ?_, by rw [hlen]; exact h.sz, h.ok, ?_⟩
  · rw [hlen]; exact hd1.far (p := ⟨p, z * 2, none⟩) h.ne_ _
  · intro i hi
    rw [hlen] at hi
    have hcz := h.cz
    by_cases e : i = z
    · subst e; rw [if_pos rfl, Array.getElem?_setIfInBounds_self_of_lt (by rw [hcz]; omega)]
    · rw [if_neg e, Array.getElem?_setIfInBounds_ne (by omega)]; exact h.c0 i hi
  · intro i hi
    rw [hlen] at hi
    rw [Array.getElem?_setIfInBounds_ne (by omega), h.c1 i hi]
    by_cases e : i = z
    · subst e; rw [appP_same _ _ _ hz]
    · rw [appP_other _ _ _ _ (fun e' => e e'.symm)]
  · intro i hi
    rw [hlen] at hi
    by_cases e : i = z
    · subst e
      simp only [if_true]
      rw [appP_same _ _ _ hz, by_app]
      refine ownsRow_of_block hown (fun b hb1 => Below.heap_setCell w1 _ _ b ?_)
      exact (hnb b hb1).2.2.1
    · simp only [if_neg e]
      rw [appP_other _ _ _ _ (fun e' => e e'.symm)]
      refine ownsRow_of_block (h.own i hi) (fun b hb1 => ?_)
      rw [Below.heap_setCell w1 _ _ b (h.nx i hi b hb1).2.2]
      exact hk.block b (h.vlt hi hb1) (fun e2 => h.dj i z hi hz e b hb1 e2)
  · intro i hi b hb1
    rw [hlen] at hi
    by_cases e : i = z
    · subst e
      simp only [if_true] at hb1
      have := hnb b hb1
      exact ⟨this.1, this.2.1, this.2.2.1⟩
    · simp only [if_neg e] at hb1
      exact h.nx i hi b hb1
  · intro i j hi hj hij b hb1 hb2
    rw [hlen] at hi hj
    by_cases e : i = z
    · subst e
      simp only [if_true] at hb1
      rw [if_neg (fun e => hij e.symm)] at hb2
      exact (hnb b hb1).2.2.2 j hj hij hb2
    · simp only [if_neg e] at hb1
      by_cases e2 : j = z
      · subst e2
        simp only [if_true] at hb2
        exact (hnb b hb2).2.2.2 i hi (fun e => hij e.symm) hb1
      · simp only [if_neg e2] at hb2
        exact h.dj i j hi hj hij b hb1 hb2
  · have := h.cl b hx
    have := hk.size
    simp [World.setCell]
    omega
  · intro i hi
    rw [hlen] at hi
    by_cases e : i = z
    · subst e; rw [appP_same _ _ _ hz]; exact (h.fit i hi).app hd hb hr
    · rw [appP_other _ _ _ _ (fun e' => e e'.symm)]; exact h.fit i hi
end

theorem zappend_any (X : Nat → Prop) (w : World) (d : Nat) (s : Sh) (P : List Part) (z : Nat) (hz : z < P.length) (h : DevIs X w d s P) (B : Nat) (A : Option Addr) (c : Nat) (data : List Int)
    (hd : data.length = s.bl) (hb : ∀ x ∈ data, ByteOk x) (hr : (P.getD z pt0).bs.length < s.zb) (hA : Reads w B 1 A data.length (nums .u8 data)) :
    Calls Tryd.prog 43 #[.pointer (some ⟨d, 0, none⟩), .int .i64 z, .slice A data.length c] w
      (fun e w' => e = .returned (.tuple #[.agg #[.int .i64 z, .int .i64 ((P.getD z pt0).bs.length : Nat)], .int .u16 0]) ∧ DevIs X w' d s (appP P z data) ∧ Kp (fun b => ¬ X b) w w') := by
  have HH := Lib.hid (fun u (hu : DevIs X u d s P) => has_any X u d s P z hu)
  obtain ⟨p, V, cs, hv⟩ := h
  obtain ⟨A0, c0, hA0, hC⟩ := pcount_at hv hz
  have HV := Lib.hid hv
  have HAD := Lib.hid (hA.more_ (by omega))
  have HC := Lib.hid hC
  have HA0 := Lib.hid hA0
  have HDT := Lib.hid (And.intro hd (And.intro hb hr))
  have HD : Hid (decide ((0 : Int) ≤ z ∧ (z : Int) < P.length) = true) := decide_eq_true (by omega)
  have hlen : P.length ≤ 256 := by have := hv.sz; have := hv.ok.facts; omega
  have HBYM := Lib.hid ((hv.fit z hz).bymax hv.ok)
  have hblm := hv.ok.blk
  have HBY : Hid ((P.getD z pt0).by.length = (P.getD z pt0).by.length) := rfl
  have hlt := hv.top.lt
  have hlp := hv.row.lt
  have hzb : (((P.getD z pt0).bs.length : Nat) : Int) < s.zb := by omega
  have hzm : s.zb ≤ 4096 := by have := hv.ok.facts; omega
  have htd : (data.length : Int) = s.bl := by omega
  rw [hd] at HAD ⊢
  clear hd hb hr hA hC hA0 hv htd
  generalize hn : (P.getD z pt0).by.length = n at *
  generalize hm : (P.getD z pt0).bs.length = m at *
  have HN := Lib.hid hn
  have HM := Lib.hid hm
  clear hn hm
  go_enter Tryd.func43, Tryd.ntmps43
  go_wp2_with (fail)
  refine (HH.out _ ?_).mono ?_
  · exact DevIs.alloc ⟨p, V, cs, HV.out⟩ _
  rintro e w' ⟨rfl, rfl⟩
  rw [HD.out]
  have hb6 := Blk.new w 58 #[.int .i64 0, .int .i64 0]
  have hv1 : DevV (fun b => X b ∨ b = w.heap.size) (w.alloc (.cells #[.int .i64 0, .int .i64 0] 58)) d p V cs s P := HV.out.move (fun b hlt _ => Below.heap_alloc w _ b hlt) (fun b hx => by
    rcases hx with hx | rfl
    · have := HV.out.cl b hx
      exact ⟨by simp; omega, .inl hx⟩
    · exact ⟨by simp, .inr (Nat.le_refl _)⟩)
  have hk1 := (Kp.refl (fun b => ¬ X b) w).alloc (.cells #[.int .i64 0, .int .i64 0] 58)
  have ha1 := HAD.out.alloc (Nat.le_refl _) (.cells #[.int .i64 0, .int .i64 0] 58)
  have hc1 := HC.out (w.alloc (.cells #[.int .i64 0, .int .i64 0] 58)) ((P.getD z pt0).du) ((Below.refl _ _).alloc (Nat.le_refl _) _)
  have hs1 : (w.alloc (.cells #[.int .i64 0, .int .i64 0] 58)).heap.size = w.heap.size + 1 := by simp
  generalize w.alloc (.cells #[.int .i64 0, .int .i64 0] 58) = w1 at *
  have t1 := hv1.t1
  have t2 := hv1.t2
  have t4 := hv1.t4
  have r0 := hv1.r0 hz
  have r1 := hv1.r1 hz
  rw [HA0.out] at r0
  have HV1 := Lib.hid hv1
  have HB6 := Lib.hid hb6
  have HK1 := Lib.hid hk1
  have HA1 := Lib.hid ha1
  have HC1 := Lib.hid hc1
  have HS1 := Lib.hid hs1
  clear hb6 hv1 hk1 ha1 hc1 HAD HC HH HD hs1
  generalize (P.getD z pt0).du = du at *
  go_wp2_with (fail)
  refine HC1.out.mono ?_
  rintro e w2 ⟨rfl, hb2⟩
  have hv2 := HV1.out.below hb2
  have hb6 := HB6.out.below hb2 HB6.out.lt
  have hk2 := HK1.out.trans (Kp.of_below (S := fun b => ¬ X b) hb2) (fun _ _ h => h)
  have ha2 := HA1.out.below (hb2.mono (by have := HS1.out; omega))
  have t1' := hv2.t1
  have t4' := hv2.t4
  have r0' := hv2.r0 hz
  have fr6 : ∀ i, w2.frozen? ⟨w.heap.size, i, none⟩ = false := fun i => hb6.frozen i
  have frp : ∀ i, w2.frozen? ⟨p, i, none⟩ = false := fun i => hv2.row.frozen i
  rw [HA0.out] at r0'
  have hown : BRow w2 0 A0 c0 (P.getD z pt0).by := by
    have := hv2.own z hz
    rw [HA0.out] at this
    unfold BRow
    rw [HN.out] at this ⊢
    exact this
  have HOWN := Lib.hid hown
  have HV2 := Lib.hid hv2
  have HB62 := Lib.hid hb6
  have HK2 := Lib.hid hk2
  have HA2 := Lib.hid ha2
  have HL2 : Hid ((P.getD z pt0).by.length + s.bl ≤ 100000000) := by have := HBYM.out; unfold Hid; rw [HN.out]; omega
  have HRS : Hid (Reads w2 w2.heap.size 1 A s.bl (nums .u8 data)) := HA2.out.more_ (by omega)
  have HLB : Hid (w.heap.size < w2.heap.size) := by have := HS1.out; have := hb2.size; unfold Hid; omega
  clear t1 t2 t4 r0 r1 hown hv2 hb6 hk2 ha2 hb2 HC1 HV1 HB6 HK1 HA1 HS1
  go_wp2_with (first
    | (at_builtin
       refine wpList_append_u8 w2 rfl (.tmp 48) (.tmp 49) rfl (P.getD z pt0).by HOWN.out HN.out.symm rfl data rfl HRS.out HL2.out (Nat.zero_le _) ?_
       intro A1 c1 w3 hb3 hk3 hat3
       have hvz : (Value.slice A0 (P.getD z pt0).by.length c0).ownBlock = (V z).ownBlock := by rw [HA0.out, HN.out]
       rw [hvz] at hk3 hat3
       have hp3 := hk3.blk HV2.out.row (fun e => (HV2.out.nx z hz p e).2.2 rfl)
       have hv0 : ∀ b, (V z).ownBlock = some b → b ≠ w.heap.size := fun b e => by have := HV.out.vlt hz e; omega
       have hb63 := hk3.blk HB62.out (fun e => hv0 _ e rfl)
       have HB3 := Lib.hid hb3
       have HK3 := Lib.hid hk3
       have HAT3 := Lib.hid hat3
       have HB63 := Lib.hid hb63
       have HP3 := Lib.hid hp3
       have q0 : w3.cell? ⟨p, z * 2, none⟩ = some (V z) := (hp3.cell _).trans (HV2.out.c0 z hz)
       have fr63 : ∀ i, w3.frozen? ⟨w.heap.size, i, none⟩ = false := fun i => hb63.frozen i
       have frp3 : ∀ i, w3.frozen? ⟨p, i, none⟩ = false := fun i => hp3.frozen i
       have u0 : w3.cell? ⟨w.heap.size, 0, none⟩ = some (.int .i64 0) := hb63.cell 0
       have u1 : w3.cell? ⟨w.heap.size, 1, none⟩ = some (.int .i64 0) := hb63.cell 1
       generalize V z = vz at q0
       generalize hL3 : ((P.getD z pt0).by ++ data).length = L3 at *
       have HL3 := Lib.hid hL3
       clear hL3
       clear hb3 hk3 hat3 hb63 hp3 hvz hv0 t1' t4' r0' fr6 frp))
  have hG := HV2.out.grow hz HDT.out.1 HDT.out.2.1 (by rw [HM.out]; exact HDT.out.2.2) HB3.out HK3.out (by
    rw [HL3.out]
    rcases HAT3.out with e | e
    · exact .inl e
    · exact .inr ⟨_, e, Nat.le_refl _⟩)
  rw [HL3.out] at hG
  have hg6 : Blk (w3.setCell ⟨p, z * 2, none⟩ (.slice A1 L3 c1)) w.heap.size 58 #[.int .i64 0, .int .i64 0] := HB63.out.far (p := ⟨p, z * 2, none⟩) (by simp; omega) _
  have hkk : Kp (fun b => ¬ X b) w (w3.setCell ⟨p, z * 2, none⟩ (.slice A1 L3 c1)) := by
    refine (HK2.out.trans (HK3.out.mono (S' := fun b => ¬ X b) (fun b _ e => (HV.out.nx z hz b e).1)) (fun _ _ h => h)).setCell (p := ⟨p, z * 2, none⟩) (.inl HV.out.xp) _
  clear q0 fr63 frp3 u0 u1
  generalize w3.setCell ⟨p, z * 2, none⟩ (.slice A1 L3 c1) = w4 at *
  have b4 := blk_set2 hg6 (.int .i64 z) (.int .i64 m)
  have k4 := kp_set2 (Kp.refl (fun b => b = w.heap.size) w4) (.inl rfl) (.int .i64 z) (.int .i64 m)
  have k5 := kp_set2 hkk (.inr (Nat.le_refl _)) (.int .i64 z) (.int .i64 m)
  generalize World.setCell (World.setCell w4 _ _) _ _ = w5 at *
  have e0 : w5.cell? ⟨w.heap.size, 0, none⟩ = some (.int .i64 z) := b4.cell 0
  have e1 : w5.cell? ⟨w.heap.size, 1, none⟩ = some (.int .i64 m) := b4.cell 1
  refine bodyPost_ret (v := .tuple #[.agg #[.int .i64 z, .int .i64 m], .int .u16 0]) (by simp [results, Tryd.results43, go_sem, e0, e1]) rfl ?_
  exact ⟨rfl, (hG.kp k4 (fun b e => .inr e)).less (fun b hx => .inl hx), k5⟩
end Go.Proofs.YtgjcofoicnnnhaaDoor

/- Package zone's device: reading a block. -/
namespace Go.Proofs.YtgjcofoicnnnhaaDoor
open Go.RowKit
set_option maxRecDepth 20000

theorem zread_any (X : Nat → Prop) (w : World) (d : Nat) (s : Sh) (P : List Part) (z k : Nat) (hz : z < P.length) (hk : k < (P.getD z pt0).bs.length) (h : DevIs X w d s P) :
    Calls Tryd.prog 33 #[.pointer (some ⟨d, 0, none⟩), .agg #[.int .i64 z, .int .i64 k]] w
      (fun e w' => ∃ A c, e = .returned (.tuple #[.slice A s.bl c, .int .u16 0]) ∧ BRow w' w.heap.size A c ((P.getD z pt0).bs.getD k []) ∧ ((P.getD z pt0).bs.getD k []).length = s.bl ∧ Below w.heap.size w w') := by
  have HH := Lib.hid (fun u (hu : DevIs X u d s P) => has_any X u d s P z hu)
  obtain ⟨p, V, cs, hv⟩ := h
  obtain ⟨A0, c0, hA0, hC⟩ := pcount_at hv hz
  have hfit := hv.fit z hz
  have hbl : ((P.getD z pt0).bs.getD k []).length = s.bl := hfit.len _ (getD_mem hk)
  have hcut := flatten_cut k hfit.len hk
  have hby := hfit.bylen
  have HBYM := Lib.hid (hfit.bymax hv.ok)
  have hD : decide ((0 : Int) ≤ z ∧ (z : Int) < P.length) = true := decide_eq_true (by omega)
  have hlen : P.length ≤ 256 := by have := hv.sz; have := hv.ok.facts; omega
  have hblm := hv.ok.blk
  have hin : (k + 1) * s.bl ≤ (P.getD z pt0).by.length := by rw [hby]; exact Nat.mul_le_mul_right _ hk
  have hon := hv.own z hz
  rw [hA0] at hon
  have hnc : (P.getD z pt0).by.length ≤ c0 := by
    rcases hon.2 with ⟨_, h0⟩ | ⟨g, cap, cur, hv2, _, _, hnc, _⟩
    · rw [h0, Nat.add_mul] at hin; omega
    · injection hv2 with _ _ h3; omega
  have hrd : Reads w w.heap.size 1 A0 (P.getD z pt0).by.length (nums .u8 (P.getD z pt0).by) := Reads.of_own hon
  have hrc : Reads w w.heap.size 1 (if c0 = k * s.bl then A0 else A0.map (·.add (k * s.bl))) s.bl (nums .u8 ((P.getD z pt0).bs.getD k [])) := by
    have h1 := hrd.cut (k := k * s.bl) (cap := c0) (by rw [Nat.add_mul] at hin; omega) hnc
    simp only [Nat.mul_one] at h1
    have h2 := h1.take_ (m := s.bl) (by rw [Nat.add_mul] at hin; omega)
    rw [Nat.mul_one, nums_drop, nums_take] at h2
    rw [← hcut]
    exact h2
  obtain ⟨at_, hat⟩ : ∃ a, k * s.bl = a := ⟨_, rfl⟩
  have hati : (k : Int) * s.bl = at_ := by rw [← hat]; simp
  have hin2 : at_ + s.bl ≤ (P.getD z pt0).by.length := by rw [Nat.add_mul] at hin; omega
  rw [hat] at hrc
  have hsl := run_cut_u8 A0 (P.getD z pt0).by.length c0 at_ s.bl (by omega)
  have HV := Lib.hid hv
  have HC := Lib.hid hC
  have HA0 := Lib.hid hA0
  have HBL := Lib.hid hbl
  have HRC := Lib.hid hrc
  have hlt := hv.top.lt
  have hlp := hv.row.lt
  have hkm : k ≤ 4096 := by have := hfit.fit; have := hv.ok.facts; omega
  have HD := Lib.hid hD
  clear hbl hC hA0 hv hfit hcut hby hD hon hrd hrc hin hat
  generalize (P.getD z pt0).bs.getD k [] = bb at *
  generalize (P.getD z pt0).by.length = n at *
  generalize hm : (P.getD z pt0).bs.length = m at *
  clear hm
  go_enter Tryd.func33, Tryd.ntmps33
  go_wp2_with (fail)
  refine (HH.out _ ?_).mono ?_
  · exact DevIs.alloc ⟨p, V, cs, HV.out⟩ _
  rintro e w' ⟨rfl, rfl⟩
  rw [HD.out]
  have hb3 := Blk.new w 58 #[.int .i64 z, .int .i64 k]
  have hv1 := HV.out.alloc (.cells #[.int .i64 z, .int .i64 k] 58)
  have hbb := (Below.refl w.heap.size w).alloc (Nat.le_refl _) (.cells #[.int .i64 z, .int .i64 k] 58)
  have hs1 : (w.alloc (.cells #[.int .i64 z, .int .i64 k] 58)).heap.size = w.heap.size + 1 := by simp
  generalize w.alloc (.cells #[.int .i64 z, .int .i64 k] 58) = w1 at *
  have t4 := hv1.t4
  have r0 := hv1.r0 hz
  have r1 := hv1.r1 hz
  rw [HA0.out] at r0
  have a0 : w1.cell? ⟨w.heap.size, 0, none⟩ = some (.int .i64 z) := hb3.cell 0
  have a1 : w1.cell? ⟨w.heap.size, 1, none⟩ = some (.int .i64 k) := hb3.cell 1
  have HV1 := Lib.hid hv1
  have HB3 := Lib.hid hb3
  have HBB := Lib.hid hbb
  have HS1 := Lib.hid hs1
  have hg1 : d < w1.heap.size := by omega
  have hg2 : p < w1.heap.size := by omega
  have hg3 : w.heap.size < w1.heap.size := by omega
  clear hv1 hb3 hbb HH HD
  generalize (P.getD z pt0).du = du at *
  go_wp2_with (fail)
  go_region
  all_goals
    have hv2 := (HV1.out.alloc (.cells #[.slice A0 n c0, .int .i64 du] 89)).below (Below.refl _ _).drew
    have hb6 := (Blk.new w1 89 #[.slice A0 n c0, .int .i64 du]).drew
    have hb3 := (HB3.out.alloc (.cells #[.slice A0 n c0, .int .i64 du] 89)).drew
    have hbb := (HBB.out.alloc (by have := HS1.out; omega) (.cells #[.slice A0 n c0, .int .i64 du] 89)).drew
    have hsz : w.heap.size + 1 < (w1.alloc (.cells #[.slice A0 n c0, .int .i64 du] 89)).drew.heap.size := by have := HS1.out; simp [World.drew]; omega
    have hz1 := HS1.out
    rw [hz1] at hb6
    clear t4 r0 r1 a0 a1 HV1 HB3 HBB hz1 hg1 hg2 hg3
    generalize (w1.alloc (.cells #[.slice A0 n c0, .int .i64 du] 89)).drew = w2 at *
    have t2 := hv2.t2
    have a1 : w2.cell? ⟨w.heap.size, 1, none⟩ = some (.int .i64 k) := hb3.cell 1
    have b0 : w2.cell? ⟨w.heap.size + 1, 0, none⟩ = some (.slice A0 n c0) := hb6.cell 0
    have b1 : w2.cell? ⟨w.heap.size + 1, 1, none⟩ = some (.int .i64 du) := hb6.cell 1
    have ks : w2.cell? ⟨w.heap.size, 1, none⟩ = some (.int .i64 k) ∧ w2.cell? ⟨w.heap.size + 1, 0, none⟩ = some (.slice A0 n c0) ∧ w2.cell? ⟨w.heap.size + 1, 1, none⟩ = some (.int .i64 du) := ⟨a1, b0, b1⟩
    have hc2 := HC.out w2.drew du (hbb.drew)
    have HV2 := Lib.hid hv2
    have HB2 := Lib.hid hbb
    have HB36 := Lib.hid (And.intro hb3 hb6)
    have HC2 := Lib.hid hc2
    have HSZ := Lib.hid hsz
    have hkn : decide ((k : Int) < 0) = false := decide_eq_false (by omega)
    clear hv2 hbb hb3 hb6 hc2 a1 b0 b1 t2 hsz HC
    go_wp2_with (fail)
    go_region_held3 (fun u => u.cell? ⟨w.heap.size, 1, none⟩ = some (.int .i64 k) ∧ u.cell? ⟨w.heap.size + 1, 0, none⟩ = some (.slice A0 n c0) ∧ u.cell? ⟨w.heap.size + 1, 1, none⟩ = some (.int .i64 du))
      (first | exact ks | exact ks2)
      (first
        | (go_at_call 39
           with_reducible refine HC2.out.mono ?_
           rintro e w3 ⟨rfl, hb⟩
           have ks2 : w3.cell? ⟨w.heap.size, 1, none⟩ = some (.int .i64 k) ∧ w3.cell? ⟨w.heap.size + 1, 0, none⟩ = some (.slice A0 n c0) ∧ w3.cell? ⟨w.heap.size + 1, 1, none⟩ = some (.int .i64 du) := ⟨below_keep hb ks.1, below_keep hb ks.2.1, below_keep hb ks.2.2⟩
           have HB3 := Lib.hid hb
           clear hb))
    all_goals
      have hb3 : Below w2.heap.size w2 w3 := (Below.refl _ w2).drew.trans HB3.out
      have hv3 := HV2.out.below hb3
      have hbb := HB2.out.trans (hb3.mono HB2.out.size)
      have t2 := hv3.t2
      have a1 := ks2.1
      have b0 := ks2.2.1
      have hrc3 := (HRC.out.below hbb).more (hbb.size)
      have hnm : HBYM = HBYM := rfl
      have hn24 : n ≤ 16777216 := HBYM.out
      have HRC3 := Lib.hid hrc3
      have HBB := Lib.hid hbb
      clear ks ks2 HC2 hb3 hv3 hbb hrc3 HB36 HV2 HRC hnm
      go_wp2_with (fail)
      go_quiet (fail)
      have ks : (w3.drewN nq).cell? ⟨d, 2, none⟩ = some (.int .i64 s.bl) ∧ (w3.drewN nq).cell? ⟨w.heap.size + 1, 0, none⟩ = some (.slice A0 n c0) := ⟨t2, b0⟩
      have HRC4 := Lib.hid (HRC3.out.drewN nq)
      have HBB4 := Lib.hid (below_drewN HBB.out nq)
      clear t2 a1 b0 HRC3 HBB
      generalize w3.drewN nq = w4 at *
      have hwr : IntKind.i64.wrap ((at_ : Int) + s.bl) = (at_ : Int) + s.bl := by rw [IntKind.wrap_i64]; omega
      have HCL := Lib.hid (clone_any w4.drew _ _ _ (c0 - at_) _ HRC4.out.drew (by omega))
      go_wp2_with (fail)
      go_region_held3 (fun u => u.cell? ⟨d, 2, none⟩ = some (.int .i64 s.bl) ∧ u.cell? ⟨w.heap.size + 1, 0, none⟩ = some (.slice A0 n c0))
        (first | exact ks | exact ks2)
        (first
          | (go_at_call 35
             with_reducible refine HCL.out.mono ?_
             rintro e w5 ⟨A5, c5, rfl, hb5, hb⟩
             have ks2 : w5.cell? ⟨d, 2, none⟩ = some (.int .i64 s.bl) ∧ w5.cell? ⟨w.heap.size + 1, 0, none⟩ = some (.slice A0 n c0) := ⟨below_keep hb ks.1, below_keep hb ks.2⟩
             have HB5 := Lib.hid (And.intro hb5 hb)
             clear hb5 hb))
      all_goals
        clear ks hsl hati hwr
        go_wp2
        go_ret2
        exact ⟨A5, c5, rfl, HB5.out.1.rebase (fun b hb => Nat.le_trans (HBB4.out.size) (HB5.out.1.lt hb).1), HBL.out, (HBB4.out.drew).trans (HB5.out.2.mono HBB4.out.size)⟩
end Go.Proofs.YtgjcofoicnnnhaaDoor

/- Package zone's device: emptied, made durable. -/
namespace Go.Proofs.YtgjcofoicnnnhaaDoor
open Go.RowKit
set_option maxRecDepth 20000

section
variable {X : Nat → Prop} {w w2 : World} {d p : Nat} {V : Nat → Value} {cs : Array Value} {s : Sh} {P : List Part}
/-- A zone's two cells are written anew. -/
theorem DevV.put (h : DevV X w d p V cs s P) {z : Nat} (hz : z < P.length) {v : Value} {q : Part} (hq : PartOk s q) (hown : w.ownsRow 0 5 1 v q.by.length (nums .u8 q.by)) (hat : ∀ b, v.ownBlock = some b → (V z).ownBlock = some b)
    (hk : Kp (fun b => b = p) w w2) (hrow : Blk w2 p 89 ((cs.setIfInBounds (z * 2) v).setIfInBounds (z * 2 + 1) (.int .i64 q.du))) : DevIs X w2 d s (P.set z q) := by
  have hlen : (P.set z q).length = P.length := by simp
  have hcz := h.cz
  refine ⟨p, fun i => if i = z then v else V i, _, ?_, hrow, by simp [hcz], ?_, ?_, ?_, ?_, ?_, h.xd, h.xp, fun b hx => ?_, by rw [hlen]; exact h.sz, h.ok, ?_⟩
  · rw [hlen]; exact hk.blk h.top h.ne_
  · intro i hi
    rw [hlen] at hi
    rw [Array.getElem?_setIfInBounds_ne (by omega)]
    by_cases e : i = z
    · subst e; rw [if_pos rfl, Array.getElem?_setIfInBounds_self_of_lt (by rw [hcz]; omega)]
    · rw [if_neg e, Array.getElem?_setIfInBounds_ne (by omega)]; exact h.c0 i hi
  · intro i hi
    rw [hlen] at hi
    by_cases e : i = z
    · subst e; rw [Array.getElem?_setIfInBounds_self_of_lt (by simp [hcz]; omega), getD_set_same _ _ _ _ hz]
    · rw [Array.getElem?_setIfInBounds_ne (by omega), Array.getElem?_setIfInBounds_ne (by omega), h.c1 i hi, getD_set_other _ _ _ _ _ (fun e' => e e'.symm)]
  · intro i hi
    rw [hlen] at hi
    by_cases e : i = z
    · subst e
      simp only [if_true]
      rw [getD_set_same _ _ _ _ hz]
      exact ownsRow_of_block hown (fun b hb1 => hk.block b (h.vlt hi (hat b hb1)) (h.nx i hi b (hat b hb1)).2.2)
    · simp only [if_neg e]
      rw [getD_set_other _ _ _ _ _ (fun e' => e e'.symm)]
      exact ownsRow_of_block (h.own i hi) (fun b hb1 => hk.block b (h.vlt hi hb1) (h.nx i hi b hb1).2.2)
  · intro i hi b hb1
    rw [hlen] at hi
    by_cases e : i = z
    · subst e
      simp only [if_true] at hb1
      exact h.nx i hi b (hat b hb1)
    · simp only [if_neg e] at hb1
      exact h.nx i hi b hb1
  · intro i j hi hj hij b hb1 hb2
    rw [hlen] at hi hj
    have g : ∀ i, i < P.length → (if i = z then v else V i).ownBlock = some b → (V i).ownBlock = some b := fun i hi e => by
      by_cases e2 : i = z
      · subst e2; rw [if_pos rfl] at e; exact hat b e
      · rw [if_neg e2] at e; exact e
    exact h.dj i j hi hj hij b (g i hi hb1) (g j hj hb2)
  · have := h.cl b hx
    have := hk.size
    omega
  · intro i hi
    rw [hlen] at hi
    by_cases e : i = z
    · subst e; rw [getD_set_same _ _ _ _ hz]; exact hq
    · rw [getD_set_other _ _ _ _ _ (fun e' => e e'.symm)]; exact h.fit i hi
end

theorem arr_set_self {α : Type} {cs : Array α} {i : Nat} {v : α} (h : cs[i]? = some v) : cs.setIfInBounds i v = cs := by
  refine Array.ext_getElem? fun j => ?_
  rw [Array.getElem?_setIfInBounds]
  split
  · rename_i e
    subst e
    split
    · exact h.symm
    · rename_i h2
      rw [Array.getElem?_eq_none (by omega)] at h
      cases h
  · rfl

theorem zreset_any (X : Nat → Prop) (w : World) (d : Nat) (s : Sh) (P : List Part) (z : Nat) (hz : z < P.length) (h : DevIs X w d s P) :
    Calls Tryd.prog 42 #[.pointer (some ⟨d, 0, none⟩), .int .i64 z] w (fun e w' => e = .returned (.int .u16 0) ∧ DevIs X w' d s (P.set z pt0) ∧ Kp (fun b => ¬ X b) w w') := by
  have HH := Lib.hid (has_any X w d s P z h)
  obtain ⟨p, V, cs, hv⟩ := h
  have t4 := hv.t4
  have r0 := hv.r0 hz
  have r1 := hv.r1 hz
  have hf : ∀ i, w.frozen? ⟨p, i, none⟩ = false := fun i => hv.row.frozen i
  have HV := Lib.hid hv
  have HD : Hid (decide ((0 : Int) ≤ z ∧ (z : Int) < P.length) = true) := decide_eq_true (by omega)
  have hlen : P.length ≤ 256 := by have := hv.sz; have := hv.ok.facts; omega
  clear hv
  generalize V z = vz at *
  generalize (P.getD z pt0).du = du at *
  go_enter Tryd.func42, Tryd.ntmps42
  go_wp2_with (fail)
  refine HH.out.mono ?_
  rintro e w' ⟨rfl, rfl⟩
  rw [HD.out]
  go_wp2
  go_ret
  have hb := (HV.out.row.set_ (z * 2) (.slice none 0 0)).set_ (z * 2 + 1) (.int .i64 0)
  have hk := kp_setTwo (Kp.refl (fun b => b = p) w) (.inl rfl) (z * 2) (z * 2 + 1) (.slice none 0 0) (.int .i64 0)
  exact ⟨rfl, HV.out.put hz (PartOk.zero s) (World.ownsRow_nil _ _ _ _) (fun b hb => by cases hb) hk hb, hk.mono (fun b _ e => by rw [e]; exact HV.out.xp)⟩

def flushP (P : List Part) : List Part := P.map (fun q => ⟨q.bs, q.bs.length⟩)
def flushTo (P : List Part) (k : Nat) : List Part := flushP (P.take k) ++ P.drop k
theorem flushTo_zero (P : List Part) : flushTo P 0 = P := by simp [flushTo, flushP]
theorem flushTo_all (P : List Part) : flushTo P P.length = flushP P := by simp [flushTo]
theorem flushTo_length (P : List Part) (k : Nat) : (flushTo P k).length = P.length := by simp [flushTo, flushP]; omega
theorem flushTo_at (P : List Part) (k : Nat) (h : k < P.length) : (flushTo P k).getD k pt0 = P.getD k pt0 := by
  unfold flushTo flushP
  rw [List.getD_eq_getElem?_getD, List.getElem?_append_right (by simp; omega)]
  simp [List.getD_eq_getElem?_getD, Nat.min_eq_left (Nat.le_of_lt h)]
theorem flushTo_succ (P : List Part) (k : Nat) (h : k < P.length) : (flushTo P k).set k ⟨(P.getD k pt0).bs, (P.getD k pt0).bs.length⟩ = flushTo P (k + 1) := by
  unfold flushTo flushP
  have e : P.drop k = P[k] :: P.drop (k + 1) := List.drop_eq_getElem_cons h
  have e0 : k - (List.map (fun q : Part => (⟨q.bs, q.bs.length⟩ : Part)) (P.take k)).length = 0 := by simp; omega
  rw [List.set_append_right _ _ (by simp; omega), e, e0, List.set_cons_zero, List.take_succ_eq_append_getElem h, List.map_append, List.append_assoc]
  congr 1
  rw [List.getD_eq_getElem?_getD, List.getElem?_eq_getElem h]
  rfl
theorem flushP_length (P : List Part) : (flushP P).length = P.length := by simp [flushP]

theorem zflush_any (X : Nat → Prop) (w : World) (d : Nat) (s : Sh) (P : List Part) (h : DevIs X w d s P) :
    Calls Tryd.prog 44 #[.pointer (some ⟨d, 0, none⟩)] w (fun e w' => e = .returned (.tuple #[]) ∧ DevIs X w' d s (flushP P) ∧ Kp (fun b => ¬ X b) w w') := by
  have t4 : ∃ p n, w.cell? ⟨d, 4, none⟩ = some (.slice (some ⟨p, 0, none⟩) n n) ∧ n = P.length := by
    obtain ⟨p, V, cs, hv⟩ := h
    exact ⟨p, _, hv.t4, rfl⟩
  obtain ⟨p0, n, t4, hn⟩ := t4
  have HN := Lib.hid hn
  have hlen : n ≤ 256 := by have := h.sz; have := h.ok.facts; omega
  have HH : Hid (DevIs X w d s (flushTo P 0) ∧ Kp (fun b => ¬ X b) w w) := ⟨by rw [flushTo_zero]; exact h, Kp.refl _ _⟩
  clear h hn
  go_enter Tryd.func44, Tryd.ntmps44
  go_wp2_with (fail)
  go_loopw [8] (fun i wr => ∃ k : Nat, k ≤ n ∧ i = .int .i64 k ∧ Hid (DevIs X wr d s (flushTo P k) ∧ Kp (fun b => ¬ X b) w wr)) (fun i _ => n - (intOf i).toNat)
  case atStart => exact ⟨0, Nat.zero_le _, rfl, HH⟩
  case round =>
    obtain ⟨k, hk, rfl, hd⟩ := hrel
    clear HH
    by_cases hlt : k < n
    · obtain ⟨p, V, cs, hv⟩ := hd.out.1
      have hkP : k < (flushTo P k).length := by rw [flushTo_length]; have := HN.out; omega
      have hkP0 : k < P.length := by have := HN.out; omega
      obtain ⟨A0, c0, hA0, hC⟩ := pcount_at hv hkP
      have hg : (flushTo P k).getD k pt0 = P.getD k pt0 := flushTo_at P k hkP0
      have hown := hv.own k hkP
      have t4 := hv.t4
      have r0 := hv.r0 hkP
      have r1 := hv.r1 hkP
      have hfk := hv.fit k hkP
      rw [flushTo_length, ← HN.out] at t4
      rw [hA0] at r0
      rw [hg] at r0 r1 hC hown hfk
      have hf : ∀ i, wr.frozen? ⟨p, i, none⟩ = false := fun i => hv.row.frozen i
      have HV := Lib.hid hv
      have HC := Lib.hid hC
      have HK := Lib.hid hd.out.2
      have HO := Lib.hid (And.intro hown hfk)
      have HA0 := Lib.hid hA0
      have HG := Lib.hid hg
      have HKP := Lib.hid (And.intro hkP hkP0)
      clear hv hC hA0 hown hfk hg hkP hkP0 hd
      generalize hq : P.getD k pt0 = q at *
      have HQ0 := Lib.hid hq
      clear hq
      generalize hqn : q.by.length = qn at *
      generalize hqm : q.bs.length = qm at *
      generalize q.du = du at *
      have HQ := Lib.hid (And.intro hqn hqm)
      clear hqn hqm
      have HC2 := Lib.hid (HC.out wr.drew du ((Below.refl _ wr).drew))
      go_upto_region 3 with (fail)
      go_region_law (first
          | (go_simp
             go_at_call 39
             with_reducible refine HC2.out.mono ?_
             rintro e w9 ⟨rfl, hb⟩
             have hv9 := (HV.out.below ((Below.refl _ wr).drew)).below hb
             have t49 : w9.cell? ⟨d, 4, none⟩ = some (.slice (some ⟨p, 0, none⟩) n n) := below_keep hb t4
             have r19 : w9.cell? ⟨p, k * 2 + 1, none⟩ = some (.int .i64 du) := below_keep hb r1
             have hf9 : ∀ i, w9.frozen? ⟨p, i, none⟩ = false := fun i => hv9.row.frozen i
             have HV9 := Lib.hid hv9
             have HB := Lib.hid hb
             clear hb hv9))
      all_goals
        clear t4 r0 r1 hf t49 r19 hf9
        have hV : (cs.setIfInBounds (k * 2) (V k)) = cs := arr_set_self (HV9.out.c0 k HKP.out.1)
        have hrow := HV9.out.row.set_ (k * 2 + 1) (.int .i64 (qm : Nat))
        have hkk : Kp (fun b => b = p) w9 (w9.setCell ⟨p, k * 2 + 1, none⟩ (.int .i64 (qm : Nat))) := (Kp.refl (fun b => b = p) w9).setCell (p := ⟨p, k * 2 + 1, none⟩) (.inl rfl) _
        have hO9 := HV9.out.own k HKP.out.1
        rw [HG.out] at hO9
        have hput := HV9.out.put HKP.out.1 (v := V k) (q := ⟨q.bs, qm⟩) ⟨HO.out.2.len, HO.out.2.fit, by rw [← HQ.out.2]; exact Nat.le_refl _, HO.out.2.byt⟩ hO9 (fun b hb => hb) hkk (by rw [hV]; exact hrow)
        have hfs := flushTo_succ P k HKP.out.2
        rw [HQ0.out, HQ.out.2] at hfs
        rw [hfs] at hput
        have hw : Kp (fun b => ¬ X b) w (w9.setCell ⟨p, k * 2 + 1, none⟩ (.int .i64 (qm : Nat))) :=
          ((HK.out.drewN 1).trans (Kp.of_below (S := fun b => ¬ X b) HB.out) (fun _ _ h => h)).setCell (p := ⟨p, k * 2 + 1, none⟩) (.inl HV.out.xp) _
        have HN2 : Hid (DevIs X (w9.setCell ⟨p, k * 2 + 1, none⟩ (.int .i64 (qm : Nat))) d s (flushTo P (k + 1)) ∧ Kp (fun b => ¬ X b) w (w9.setCell ⟨p, k * 2 + 1, none⟩ (.int .i64 (qm : Nat)))) := ⟨hput, hw⟩
        clear hV hrow hkk hO9 hput hfs hw
        go_wp2
        go_roundw
        case rel => exact ⟨k + 1, by omega, by go_num, HN2⟩
        case measure => simp [intOf]; omega
    · obtain rfl : k = n := by omega
      go_wp2
      go_end0
      have := hd.out
      rw [HN.out, flushTo_all] at this
      exact ⟨rfl, this.1, this.2⟩
end Go.Proofs.YtgjcofoicnnnhaaDoor

/- Package zone's device: a new one. -/
namespace Go.Proofs.YtgjcofoicnnnhaaDoor
open Go.RowKit
set_option maxRecDepth 20000

theorem part_info : (Tryd.prog.info? 89).map (fun i => (i.zero, i.size, i.bytes)) = some (some (.agg #[.slice none 0 0, .int .i64 0]), 2, 32) := by kernel_rfl
theorem run_make_parts (n : Nat) (h : n ≤ 65536) (w : World) : (Instr.makeSlice 85 (.int .i64 (n : Int)) (.int .i64 (n : Int))).run Tryd.prog w = .ok (.slice (some ⟨w.heap.size, 0, none⟩) n n) (w.alloc (.cells (madeCells #[.slice none 0 0, .int .i64 0] (n * 2)) 89)) := by
  obtain ⟨i, hi, hz, hs, hb⟩ := info_parts part_info
  have hr := run_make (P := Tryd.prog) w 85 89 i (.agg #[.slice none 0 0, .int .i64 0]) Tryd.underlying85 hi hz .i64 .i64 n n (by omega) (by omega) (by rw [hb]; omega) (by omega)
  simp only [Int.toNat_natCast] at hr
  rw [hr, hs]
  rfl
theorem made_get (x y : Value) (n i : Nat) (h : i < n) : (madeCells #[x, y] (n * 2))[i * 2]? = some x ∧ (madeCells #[x, y] (n * 2))[i * 2 + 1]? = some y := by
  have e1 : i * 2 < n * 2 := by omega
  have e2 : i * 2 + 1 < n * 2 := by omega
  unfold madeCells
  constructor
  · simp [e1]
  · simp [e2]

/-- What a new device is, or that there is none. -/
def DevNew (z zb bl rs : Int) (w : World) (e : Ending) (w' : World) : Prop :=
  (rightB z zb bl rs = true → ∃ (d : Nat) (s : Sh), z = s.z ∧ zb = s.zb ∧ bl = s.bl ∧ rs = s.rs ∧ e = .returned (.pointer (some ⟨d, 0, none⟩)) ∧ w.heap.size ≤ d ∧ DevIs (fun b => b < w.heap.size) w' d s (List.replicate s.z pt0)) ∧ (rightB z zb bl rs = false → e = .returned (.pointer none)) ∧ Below w.heap.size w w'

theorem znew_any (z zb bl rs : Int) (w : World) (hz : -9223372036854775808 ≤ z ∧ z ≤ 9223372036854775807) (hb : -9223372036854775808 ≤ bl ∧ bl ≤ 9223372036854775807) :
    Calls Tryd.prog 25 #[.agg #[.int .i64 z, .int .i64 zb, .int .i64 bl, .int .i64 rs]] w (DevNew z zb bl rs w) := by
  have HR := Lib.hid (fun w => right_any z zb bl rs w hz hb)
  cases hr : rightB z zb bl rs with
  | false =>
    have HF := Lib.hid hr
    rw [hr] at HR
    clear hr
    go_enter Tryd.func25, Tryd.ntmps25
    go_wp2_with (fail)
    refine (HR.out _).mono ?_
    rintro e w1 ⟨rfl, hb1⟩
    go_wp2
    go_ret
    exact ⟨fun ht => absurd (ht.symm.trans HF.out) (by decide), fun _ => rfl, ((Below.refl _ _).alloc (Nat.le_refl _) _).trans (hb1.mono (by simp))⟩
  | true =>
    have HT := Lib.hid hr
    obtain ⟨s, rfl, rfl, rfl, rfl, hok⟩ := sh_of hr
    have hz256 := hok.facts.2.1
    rw [hr] at HR
    have HOK := Lib.hid hok
    have hmk := run_make_parts s.z (by omega)
    clear hr hz hb hok
    go_enter Tryd.func25, Tryd.ntmps25
    go_wp2_with (fail)
    refine (HR.out _).mono ?_
    rintro e w1 ⟨rfl, hb1⟩
    have hblk := (Blk.new w 23 #[.int .i64 s.z, .int .i64 s.zb, .int .i64 s.bl, .int .i64 s.rs]).below hb1 (by simp)
    have c0 : w1.cell? ⟨w.heap.size, 0, none⟩ = some (.int .i64 s.z) := hblk.cell 0
    have c1 : w1.cell? ⟨w.heap.size, 1, none⟩ = some (.int .i64 s.zb) := hblk.cell 1
    have c2 : w1.cell? ⟨w.heap.size, 2, none⟩ = some (.int .i64 s.bl) := hblk.cell 2
    have c3 : w1.cell? ⟨w.heap.size, 3, none⟩ = some (.int .i64 s.rs) := hblk.cell 3
    have hs1 : w.heap.size < w1.heap.size := by have := hb1.size; simp at this; omega
    have hbw : Below w.heap.size w w1 := ((Below.refl _ _).alloc (Nat.le_refl _) _).trans (hb1.mono (by simp))
    have HBW := Lib.hid hbw
    clear hbw hb1 HR hblk
    go_wp2_with (fail)
    go_region
    all_goals
      clear c0 c1 c2 c3 hmk
      have hp := (Blk.new w1 89 (madeCells #[.slice none 0 0, .int .i64 0] (s.z * 2))).alloc (.cells #[.int .i64 s.z, .int .i64 s.zb, .int .i64 s.bl, .int .i64 s.rs, .slice (some ⟨w1.heap.size, 0, none⟩) s.z s.z] 87)
      have hd := Blk.new (w1.alloc (.cells (madeCells #[.slice none 0 0, .int .i64 0] (s.z * 2)) 89)) 87 #[.int .i64 s.z, .int .i64 s.zb, .int .i64 s.bl, .int .i64 s.rs, .slice (some ⟨w1.heap.size, 0, none⟩) s.z s.z]
      rw [World.size_alloc] at hd
      have hbl : Below w.heap.size w ((w1.alloc (.cells (madeCells #[.slice none 0 0, .int .i64 0] (s.z * 2)) 89)).alloc (.cells #[.int .i64 s.z, .int .i64 s.zb, .int .i64 s.bl, .int .i64 s.rs, .slice (some ⟨w1.heap.size, 0, none⟩) s.z s.z] 87)).drew := ((HBW.out.alloc (by omega) _).alloc (by simp; omega) _).drew
      have hp := hp.drew
      have hd := hd.drew
      generalize ((w1.alloc (.cells (madeCells #[.slice none 0 0, .int .i64 0] (s.z * 2)) 89)).alloc (.cells #[.int .i64 s.z, .int .i64 s.zb, .int .i64 s.bl, .int .i64 s.rs, .slice (some ⟨w1.heap.size, 0, none⟩) s.z s.z] 87)).drew = w2 at *
      have HPD := Lib.hid (And.intro hp (And.intro hd hbl))
      clear hp hd hbl
      go_wp2
      go_ret
      obtain ⟨hp, hd, hbl⟩ := HPD.out
      have hg : ∀ i, (List.replicate s.z pt0).getD i pt0 = pt0 := fun i => by
        rw [List.getD_eq_getElem?_getD, List.getElem?_replicate]
        split <;> rfl
      refine ⟨fun _ => ⟨w1.heap.size + 1, s, rfl, rfl, rfl, rfl, rfl, by omega, w1.heap.size, fun _ => .slice none 0 0, madeCells #[.slice none 0 0, .int .i64 0] (s.z * 2), ?_⟩, fun hf => absurd (hf.symm.trans HT.out) (by decide), hbl⟩
      refine ⟨by simpa using hd, hp, by rw [size_madeCells]; simp, fun i hi => (made_get _ _ _ _ (by simpa using hi)).1, fun i hi => ?_, fun i hi => ?_, fun i hi b e => (by cases e), fun i j hi hj hij b e => (by cases e), (by omega), (by omega), fun b hx => Nat.lt_of_lt_of_le hx hbl.size, by simp, HOK.out, fun i hi => ?_⟩
      · rw [hg]; exact (made_get _ _ _ _ (by simpa using hi)).2
      · rw [hg]; exact World.ownsRow_nil _ _ _ _
      · rw [hg]; exact PartOk.zero s
end Go.Proofs.YtgjcofoicnnnhaaDoor

/- Package ckpt: a checkpoint without places, encoded and saved. -/
namespace Go.Proofs.YtgjcofoicnnnhaaDoor
open Go.RowKit
set_option maxRecDepth 20000

def roomC (bl : Nat) : Nat := (bl - 27) / 16
theorem croom_any (s : Sh) (h : s.ok) (w : World) : Calls Tryd.prog 58 #[.int .i64 s.bl] w fun e w' => e = .returned (.int .i64 (roomC s.bl : Nat)) ∧ w = w' := by
  have hp := pow_ok h
  have h1 := h.blk
  have hq : (roomC s.bl : Nat) = ((s.bl : Int) - 27) / 16 := by unfold roomC; omega
  rw [hq]
  generalize s.bl = bl at *
  clear hq
  go_enter Tryd.func58, Tryd.ntmps58
  go_wp2
  go_ret
  exact ⟨ret_int (by omega), rfl⟩

theorem cmay_nil (s : Sh) (w : World) : Calls Tryd.prog 57 #[shV s, .slice none 0 0] w (Makes (.bool true) w) := by
  unfold shV
  go_enter Tryd.func57, Tryd.ntmps57
  go_wp2_with (fail)
  go_loopw [10] (fun i wr => i = .int .i64 0 ∧ Hid (Below w.heap.size w wr)) (fun _ _ => 0)
  case atStart => exact ⟨rfl, (Below.refl _ _).alloc (Nat.le_refl _) _⟩
  case round =>
    obtain ⟨rfl, hb⟩ := hrel
    go_wp2
    go_ret
    exact ⟨rfl, hb.out⟩

theorem cencode_nil (s : Sh) (hs : s.ok) (seq : Int) (hq : 0 ≤ seq ∧ seq ≤ 18446744073709551615) (w : World) :
    Calls Tryd.prog 41 #[shV s, .agg #[.int .u64 seq, .slice none 0 0]] w
      (fun e w' => ∃ g A c, e = .returned (.tuple #[.slice (some ⟨g, 0, none⟩) 1 1, .int .u16 0]) ∧ Blk w' g 35 #[.slice A s.bl c] ∧ BRow w' w.heap.size A c (doneB (headC 0 1 seq 0) s.bl) ∧ w.heap.size ≤ g ∧ Below w.heap.size w w') := by
  have HR := Lib.hid (fun w => right_any s.z s.zb s.bl s.rs w (by have := hs.facts; omega) (by have := hs.facts; omega))
  rw [hs.is] at HR
  have HM := Lib.hid (cmay_nil s)
  have HRM := Lib.hid (croom_any s hs)
  have HB := Lib.hid (block_nil s hs 0 1 seq (by omega) (by omega) hq)
  have hbl := hs.blk
  have hzb := hs.facts
  have hzb0 : ¬ (s.zb : Int) < 1 := by omega
  have hr1 : 1 ≤ roomC s.bl := by unfold roomC; omega
  have hr2 : roomC s.bl ≤ 4096 := by unfold roomC; omega
  obtain ⟨r, hr⟩ : ∃ r, roomC s.bl = r + 1 := ⟨roomC s.bl - 1, by omega⟩
  rw [hr] at HRM hr1 hr2
  have hdiv : (r : Int) / ((r : Int) + 1) = 0 := Int.ediv_eq_zero_of_lt (by omega) (by omega)
  unfold shV at *
  clear hs hq hr hzb
  go_enter Tryd.func41, Tryd.ntmps41
  go_wp2_with (fail)
  refine (HR.out _).mono ?_
  rintro e w1 ⟨rfl, hb1⟩
  have k0 := ((Blk.new w 23 #[.int .i64 s.z, .int .i64 s.zb, .int .i64 s.bl, .int .i64 s.rs]).alloc (.cells #[.int .u64 seq, .slice none 0 0] 67)).below hb1 (by simp; omega)
  have k1 := (Blk.new (w.alloc (.cells #[.int .i64 s.z, .int .i64 s.zb, .int .i64 s.bl, .int .i64 s.rs] 23)) 67 #[.int .u64 seq, .slice none 0 0]).below hb1 (by simp)
  rw [World.size_alloc] at k1
  have hw1 : Below w.heap.size w w1 := (((Below.refl _ w).alloc (Nat.le_refl _) _).alloc (by simp) _).trans (hb1.mono (by simp; omega))
  have HK := Lib.hid (And.intro k0 (And.intro k1 hw1))
  have c0 : w1.cell? ⟨w.heap.size, 0, none⟩ = some (.int .i64 s.z) := k0.cell 0
  have c1 : w1.cell? ⟨w.heap.size, 1, none⟩ = some (.int .i64 s.zb) := k0.cell 1
  have c2 : w1.cell? ⟨w.heap.size, 2, none⟩ = some (.int .i64 s.bl) := k0.cell 2
  have c3 : w1.cell? ⟨w.heap.size, 3, none⟩ = some (.int .i64 s.rs) := k0.cell 3
  have d1 : w1.cell? ⟨w.heap.size + 1, 1, none⟩ = some (.slice none 0 0) := k1.cell 1
  clear hb1 k0 k1 hw1 HR
  go_wp2_with (fail)
  refine (HM.out _).mono ?_
  rintro e w2 ⟨rfl, hb2⟩
  have k0 := HK.out.1.below hb2 HK.out.1.lt
  have k1 := HK.out.2.1.below hb2 HK.out.2.1.lt
  have hw2 := HK.out.2.2.trans (hb2.mono HK.out.2.2.size)
  have HK2 := Lib.hid (And.intro k0 (And.intro k1 hw2))
  clear c0 c1 c2 c3 d1 hb2 hw2 HK HM
  have c0 : w2.cell? ⟨w.heap.size, 0, none⟩ = some (.int .i64 s.z) := k0.cell 0
  have c1 : w2.cell? ⟨w.heap.size, 1, none⟩ = some (.int .i64 s.zb) := k0.cell 1
  have c2 : w2.cell? ⟨w.heap.size, 2, none⟩ = some (.int .i64 s.bl) := k0.cell 2
  have c3 : w2.cell? ⟨w.heap.size, 3, none⟩ = some (.int .i64 s.rs) := k0.cell 3
  have d0 : w2.cell? ⟨w.heap.size + 1, 0, none⟩ = some (.int .u64 seq) := k1.cell 0
  have d1 : w2.cell? ⟨w.heap.size + 1, 1, none⟩ = some (.slice none 0 0) := k1.cell 1
  have g0 := k0.lt
  have g1 := k1.lt
  clear k0 k1
  go_wp2_with (fail)
  refine (HRM.out _).mono ?_
  rintro e w' ⟨rfl, rfl⟩
  go_wp2_with (fail)
  have hw3 : Below w.heap.size w (w2.alloc (.cells #[.int .i64 1] 3)) := HK2.out.2.2.alloc HK2.out.2.2.size _
  clear c0 c1 c2 c3 d0 d1 g0 g1 HK2 HRM
  generalize w2.alloc (.cells #[.int .i64 1] 3) = w3 at *
  refine (HB.out _).mono ?_
  rintro e w4 ⟨A4, c4, rfl, hb4, hbl4⟩
  have HB4 := Lib.hid (And.intro hb4 (hw3.trans (hbl4.mono hw3.size)))
  have hs34 := Lib.hid (Nat.le_trans hw3.size (Nat.le_refl _))
  clear hb4 hbl4 hdiv
  go_wp2
  go_ret2
  have hw4 := HB4.out.2
  exact ⟨w4.heap.size, A4, c4, rfl, Blk.new w4 _ _, (HB4.out.1.rebase (fun b hb => Nat.le_trans hw3.size (HB4.out.1.lt hb).1)).alloc _, hw4.size, hw4.alloc hw4.size _⟩

/-- A checkpoint without places, in a slot. -/
def saveP (P : List Part) (z : Nat) (b : List Int) : List Part := flushP (appP (P.set z pt0) z b)

theorem csave_nil (X : Nat → Prop) (w : World) (d : Nat) (s : Sh) (P : List Part) (z : Nat) (hz : z < 2) (seq : Int) (hq : 0 ≤ seq ∧ seq ≤ 18446744073709551615) (h : DevIs X w d s P) :
    Calls Tryd.prog 26 #[.pointer (some ⟨d, 0, none⟩), .int .i64 z, .agg #[.int .u64 seq, .slice none 0 0]] w
      (fun e w' => e = .returned (.int .u16 0) ∧ DevIs X w' d s (saveP P z (doneB (headC 0 1 seq 0) s.bl)) ∧ Kp (fun b => ¬ X b) w w') := by
  have hsz := h.sz
  have hs := h.ok
  have hf := hs.facts
  have hzP : z < P.length := by omega
  have HE := Lib.hid (cencode_nil s hs seq hq)
  have HS := Lib.hid (fun u (hu : DevIs X u d s P) => shape_any X u d s P hu)
  have HLEN : Hid ((doneB (headC 0 1 seq 0) s.bl).length = s.bl) := doneB_length _ _ (by rw [headC_length]; omega) (by omega)
  have HBD : Hid (∀ x ∈ doneB (headC 0 1 seq 0) s.bl, ByteOk x) := doneB_bd _ _ (packS_bd _ _)
  have HD := Lib.hid h
  have HSP : Hid (saveP P z (doneB (headC 0 1 seq 0) s.bl) = flushP (appP (P.set z pt0) z (doneB (headC 0 1 seq 0) s.bl))) := rfl
  have HZ := Lib.hid (And.intro hzP (And.intro (show 0 < s.zb by omega) hs))
  have hz2 : (z : Int) < 2 := by omega
  generalize saveP P z (doneB (headC 0 1 seq 0) s.bl) = PQ at *
  generalize doneB (headC 0 1 seq 0) s.bl = bb at *
  clear h hsz hs hf hzP
  go_enter Tryd.func26, Tryd.ntmps26
  go_wp2_with (fail)
  have k0 := Blk.new w 67 #[.int .u64 seq, .slice none 0 0]
  have hd1 := HD.out.alloc (.cells #[.int .u64 seq, .slice none 0 0] 67)
  have hk1 := (Kp.refl (fun b => ¬ X b) w).alloc (.cells #[.int .u64 seq, .slice none 0 0] 67)
  generalize w.alloc (.cells #[.int .u64 seq, .slice none 0 0] 67) = w1 at *
  have ks : w1.cell? ⟨w.heap.size, 0, none⟩ = some (.int .u64 seq) ∧ w1.cell? ⟨w.heap.size, 1, none⟩ = some (.slice none 0 0) := ⟨k0.cell 0, k0.cell 1⟩
  have HS1 := Lib.hid (HS.out _ hd1.drew)
  unfold shV at HS1 HE
  have HD1 := Lib.hid (And.intro hd1 hk1)
  clear k0 hd1 hk1 HS
  go_region_held3 (fun u => u.cell? ⟨w.heap.size, 0, none⟩ = some (.int .u64 seq) ∧ u.cell? ⟨w.heap.size, 1, none⟩ = some (.slice none 0 0))
    (first | exact ks | exact ks2 | exact ks3)
    (first
      | (go_at_call 29
         with_reducible refine HS1.out.mono ?_
         rintro e w2 ⟨rfl, hb⟩
         have ks2 : w2.cell? ⟨w.heap.size, 0, none⟩ = some (.int .u64 seq) ∧ w2.cell? ⟨w.heap.size, 1, none⟩ = some (.slice none 0 0) := ⟨below_keep hb ks.1, below_keep hb ks.2⟩
         have HD2 := Lib.hid (And.intro (HD1.out.1.drew.below hb) ((HD1.out.2.drewN 1).trans (Kp.of_below (S := fun b => ¬ X b) hb) (fun _ _ h => h)))
         clear hb)
      | (go_at_call 41
         refine (HE.out _).mono ?_
         rintro e w3 ⟨g, A3, c3, rfl, hg3, hr3, hgl, hb⟩
         have ks3 : w3.cell? ⟨w.heap.size, 0, none⟩ = some (.int .u64 seq) ∧ w3.cell? ⟨w.heap.size, 1, none⟩ = some (.slice none 0 0) := ⟨below_keep hb ks2.1, below_keep hb ks2.2⟩
         obtain ⟨ga, hA3, _⟩ := hr3.at_ (k := 0) (by have := HLEN.out; have := HZ.out.2.2.blk; omega)
         subst hA3
         have hga := hr3.lt (b := ga) rfl
         have HD3 : Hid (DevIs (fun b => X b ∨ b = g ∨ b = ga) w3 d s P ∧ Kp (fun b => ¬ X b) w w3) := ⟨HD2.out.1.move (fun b hlt _ => hb.block b hlt) (fun b hx => by
           rcases hx with hx | rfl | rfl
           · exact ⟨Nat.lt_of_lt_of_le (HD2.out.1.cl b hx) hb.size, .inl hx⟩
           · exact ⟨hg3.lt, .inr hgl⟩
           · exact ⟨hga.2, .inr hga.1⟩), HD2.out.2.trans (Kp.of_below (S := fun b => ¬ X b) hb) (fun _ _ h => h)⟩
         have HG3 := Lib.hid (And.intro hg3 (hr3.rebase (base' := 0) (fun _ _ => Nat.zero_le _)))
         clear hb hg3 hr3 hgl hga))
  all_goals
    clear ks ks2 ks3 HD1 HD2 HS1
    go_wp2_with (fail)
    refine (zreset_any _ w3 d s P z HZ.out.1 HD3.out.1).mono ?_
    rintro e w4 ⟨rfl, hd4, hk4⟩
    have hg4 := hk4.blk HG3.out.1 (fun h => h (.inr (.inl rfl)))
    have hb4 : BRow w4 0 (some ⟨ga, 0, none⟩) c3 bb := HG3.out.2.kp hk4 (fun b hb => by
      have : ga = b := by simpa [Value.ownBlock] using hb
      exact fun h => h (.inr (.inr this.symm)))
    have HS4 : Hid (DevIs (fun b => X b ∨ b = g ∨ b = ga) w4 d s (P.set z pt0) ∧ Kp (fun b => ¬ X b) w w4 ∧ Blk w4 g 35 #[.slice (some ⟨ga, 0, none⟩) s.bl c3] ∧ BRow w4 0 (some ⟨ga, 0, none⟩) c3 bb) :=
      ⟨hd4, HD3.out.2.trans hk4 (fun b _ h hx => h (.inl hx)), hg4, hb4⟩
    clear hd4 hk4 hg4 hb4 HD3 HG3
    go_wp2_with (fail)
    go_loopw [32] (fun i wr => (i = .int .i64 0 ∧ Hid (DevIs (fun b => X b ∨ b = g ∨ b = ga) wr d s (P.set z pt0) ∧ Kp (fun b => ¬ X b) w wr ∧ Blk wr g 35 #[.slice (some ⟨ga, 0, none⟩) s.bl c3] ∧ BRow wr 0 (some ⟨ga, 0, none⟩) c3 bb)) ∨ (i = .int .i64 1 ∧ Hid (DevIs X wr d s (appP (P.set z pt0) z bb) ∧ Kp (fun b => ¬ X b) w wr))) (fun i _ => 1 - (intOf i).toNat)
    case atStart => exact .inl ⟨rfl, HS4⟩
    case round =>
      rcases hrel with ⟨rfl, h0⟩ | ⟨rfl, h1⟩
      · clear HS4
        have c0 : wr.cell? ⟨g, 0, none⟩ = some (.slice (some ⟨ga, 0, none⟩) s.bl c3) := h0.out.2.2.1.cell 0
        have hzl : z < (P.set z pt0).length := by have := HZ.out.1; simpa using this
        have hrd := h0.out.2.2.2.reads
        have HA := Lib.hid (zappend_any _ wr d s (P.set z pt0) z hzl h0.out.1 _ _ c3 bb HLEN.out HBD.out (by rw [getD_set_same _ _ _ _ HZ.out.1]; exact HZ.out.2.1) hrd)
        rw [HLEN.out] at HA
        clear hzl hrd
        go_wp2_with (fail)
        refine HA.out.mono ?_
        rintro e w5 ⟨rfl, hd5, hk5⟩
        have HS5 : Hid (DevIs X w5 d s (appP (P.set z pt0) z bb) ∧ Kp (fun b => ¬ X b) w w5) := ⟨hd5.less (fun b hb => .inl hb), h0.out.2.1.trans hk5 (fun b _ h hx => h (.inl hx))⟩
        clear hd5 hk5 c0 HA h0
        go_wp2
        go_roundw
        case rel => exact .inr ⟨rfl, HS5⟩
        case measure => simp [intOf]
      · clear HS4
        go_wp2_with (fail)
        refine (zflush_any X wr d s _ h1.out.1).mono ?_
        rintro e w6 ⟨rfl, hd6, hk6⟩
        have HS6 := Lib.hid (And.intro hd6 (h1.out.2.trans hk6 (fun _ _ h => h)))
        clear hd6 hk6
        go_wp2
        go_ret
        rw [HSP.out]
        exact ⟨rfl, HS6.out.1, HS6.out.2⟩
end Go.Proofs.YtgjcofoicnnnhaaDoor

/- Package rec: where data end. -/
namespace Go.Proofs.YtgjcofoicnnnhaaDoor
open Go.RowKit
set_option maxRecDepth 20000

/-- How many of the first n there are up to the last that is not nought. -/
def endsTo (l : List Int) : Nat → Nat
  | 0 => 0
  | n + 1 => if l.getD n 0 = 0 then endsTo l n else n + 1
def endsN (l : List Int) : Nat := endsTo l l.length
theorem endsTo_le (l : List Int) (n : Nat) : endsTo l n ≤ n := by
  induction n with
  | zero => exact Nat.le_refl _
  | succ n ih =>
    unfold endsTo
    split
    · omega
    · exact Nat.le_refl _

theorem trimz_any (w : World) (B : Nat) (A : Option Addr) (c : Nat) (l : List Int) (h : Reads w B 1 A l.length (nums .u8 l)) (hc : l.length ≤ c) (hn : l.length ≤ 100000000) (hby : ∀ x ∈ l, ByteOk x) :
    Calls Tryd.prog 88 #[.slice A l.length c, .int .u8 0] w fun e w' => e = .returned (.slice A (endsN l) c) ∧ w = w' := by
  have HR := Lib.hid h
  have HBY := Lib.hid hby
  have hsl : ∀ (u : World) (n k : Nat), k ≤ c → (Instr.slice 35 (.slice A n c) none (some (.int .i64 (k : Int))) none).run Tryd.prog u = .ok (.slice A k c) u := fun u n k hk => by
    have := run_front_u8 A n c k hk u
    rw [this]
    congr 2
    split
    · rfl
    · cases A with
      | none => rfl
      | some ad => simp [Addr.add]
  have HSL := Lib.hid hsl
  have HE : Hid (endsTo l l.length = endsN l) := rfl
  clear h hby hsl
  obtain ⟨N, hN⟩ : ∃ N, l.length = N := ⟨_, rfl⟩
  rw [hN] at HE hc hn ⊢
  have HN := Lib.hid hN
  clear hN
  go_enter Tryd.func88, Tryd.ntmps88
  go_wp2_with (fail)
  go_loop [0] (fun s => ∃ k : Nat, k ≤ N ∧ s = .slice A k c ∧ Hid (endsTo l k = endsN l)) (fun s => match s with | .slice _ n _ => n | _ => 0)
  case atStart => exact ⟨N, Nat.le_refl _, rfl, HE⟩
  case round =>
    obtain ⟨k, hk, rfl, he⟩ := hrel
    by_cases hlt : k = 0
    · subst hlt
      have he0 : endsN l = 0 := he.out.symm
      rw [he0]
      have hd : decide ((0 : Int) < (0 : Nat)) = false := by decide
      go_wp2
      go_ret
      exact ⟨rfl, rfl⟩
    · obtain ⟨m, rfl⟩ : ∃ m, k = m + 1 := ⟨k - 1, by omega⟩
      obtain ⟨ad, rfl, _, hcell⟩ := HR.out.num (show m < l.length by have := HN.out; omega)
      have hm1 : ((m + 1 : Nat) : Int) - 1 = (m : Int) := by omega
      have hm2 : (m : Int) < ((m + 1 : Nat) : Int) := by omega
      have hsl := fun u => HSL.out u (m + 1) m (by omega)
      by_cases hz : l.getD m 0 = 0
      · rw [hz] at hcell
        have HE2 : Hid (endsTo l m = endsN l) := by
          have := he.out
          unfold endsTo at this
          rw [if_pos hz] at this
          exact this
        clear he hz
        go_wp2
        go_round
        case rel => exact ⟨m, by omega, rfl, HE2⟩
        case measure => show m < m + 1; omega
      · have he0 : endsN l = m + 1 := by
          rw [← he.out]
          unfold endsTo
          rw [if_neg hz]
        have hzf : (l.getD m 0 == 0) = false := by rw [beq_eq_false_iff_ne]; exact hz
        have HE0 := Lib.hid he0
        clear he hz he0
        generalize l.getD m 0 = y at *
        go_wp2
        go_ret
        exact ⟨by rw [HE0.out]; rfl, rfl⟩

theorem trim_any (w : World) (B : Nat) (A : Option Addr) (c : Nat) (l : List Int) (h : Reads w B 1 A l.length (nums .u8 l)) (hc : l.length ≤ c) (hn : l.length ≤ 100000000) (hby : ∀ x ∈ l, ByteOk x) :
    Calls Tryd.prog 79 #[.slice A l.length c, .string ⟨#[0]⟩] w fun e w' => e = .returned (.slice A (endsN l) c) ∧ w = w' := by
  have HT := Lib.hid (trimz_any w B A c l h hc hn hby)
  clear h hby
  by_cases h0 : l.length = 0
  · have he : endsN l = 0 := by unfold endsN; rw [h0]; rfl
    rw [he, h0]
    clear he HT
    go_enter Tryd.func79, Tryd.ntmps79
    go_wp2
    go_ret
    exact ⟨rfl, rfl⟩
  · have hz : ((l.length : Int) == 0) = false := by rw [beq_eq_false_iff_ne]; omega
    go_enter Tryd.func79, Tryd.ntmps79
    go_wp2_with (fail)
    refine HT.out.mono ?_
    rintro e w' ⟨rfl, rfl⟩
    go_wp2
    go_ret
    exact ⟨rfl, rfl⟩

theorem ends_any (w : World) (B : Nat) (A : Option Addr) (c : Nat) (l : List Int) (h : Reads w B 1 A l.length (nums .u8 l)) (hc : l.length ≤ c) (hn : l.length ≤ 100000000) (hby : ∀ x ∈ l, ByteOk x) :
    Calls Tryd.prog 67 #[.slice A l.length c] w fun e w' => e = .returned (.int .i64 (endsN l : Nat)) ∧ w = w' := by
  have HT := Lib.hid (trim_any w B A c l h hc hn hby)
  clear h hby
  go_enter Tryd.func67, Tryd.ntmps67
  go_wp2_with (fail)
  refine HT.out.mono ?_
  rintro e w' ⟨rfl, rfl⟩
  go_wp2
  go_ret
  exact ⟨rfl, rfl⟩
end Go.Proofs.YtgjcofoicnnnhaaDoor

/- Maps as functions: a block that is a map, read as a function from keys to values; its laws at a look-up, a store, a deletion. -/
namespace Go.Proofs.YtgjcofoicnnnhaaDoor
open Go.Maps (Keyed)
open Go.RowKit

/-- How keys are told: the values that are keys, by what they stand for. -/
structure KeyCode (P : Program) (k : TypeId) (A : Type) where
  law : Keyed P k
  kv : A → Value
  ok : A → Prop
  isKey : ∀ a, ok a → ∃ kl, keyOf P k (kv a) = some kl
  inj : ∀ a b, kv a = kv b → a = b

theorem KeyCode.keyed {P : Program} {k : TypeId} {A : Type} (C : KeyCode P k A) : Keyed P k := C.law

/-- Every value reads as itself. -/
def asHeld (v : Value) : Option (DataW Value × List MemPlace) := some (.held v, [])

/-- BLOCK b IS A MAP OF AT MOST n ENTRIES THAT HAS AT EACH KEY WHAT F SAYS. -/
structure MapF {P : Program} {k : TypeId} {A B : Type} (C : KeyCode P k A) (ev : B → Value) (w : World) (b n : Nat) (F : A → Option B) : Prop where
  is : ∃ D : DataW Value, w.ownsMap P k asHeld b n D ∧ (∀ a kl, C.ok a → keyOf P k (C.kv a) = some kl → Maps.has D kl = (F a).isSome ∧ ∀ z, D.atKey kl z = ((F a).map (fun x => DataW.held (ev x))).getD z) ∧
    ∀ kl, Maps.has D kl = true → ∃ a, C.ok a ∧ keyOf P k (C.kv a) = some kl

section
variable {P : Program} {k : TypeId} {A B : Type} {C : KeyCode P k A} {ev : B → Value} {w w' : World} {b n : Nat} {F : A → Option B}

theorem MapF.lt (h : MapF C ev w b n F) : b < w.heap.size := by obtain ⟨D, h1, _⟩ := h.is; exact h1.lt
theorem MapF.of_block (h : MapF C ev w b n F) (hb : w'.heap[b]? = w.heap[b]?) : MapF C ev w' b n F := by
  obtain ⟨D, ⟨es, clock, h0, h1⟩, h2⟩ := h.is
  exact ⟨D, ⟨es, clock, hb.trans h0, h1⟩, h2⟩
theorem MapF.mono (h : MapF C ev w b n F) {n' : Nat} (hn : n ≤ n') : MapF C ev w b n' F := by
  obtain ⟨D, h1, h2⟩ := h.is
  exact ⟨D, h1.mono hn, h2⟩
theorem MapF.drew (h : MapF C ev w b n F) : MapF C ev w.drew b n F := h.of_block rfl
theorem MapF.drewN (h : MapF C ev w b n F) (m : Nat) : MapF C ev (w.drewN m) b n F := h.of_block rfl
theorem MapF.alloc (h : MapF C ev w b n F) (o : Obj) : MapF C ev (w.alloc o) b n F := h.of_block (Below.heap_alloc w o b h.lt)
theorem MapF.setCell (h : MapF C ev w b n F) {p : Addr} (hp : b ≠ p.block) (u : Value) : MapF C ev (w.setCell p u) b n F := h.of_block (Below.heap_setCell w p u b hp)
theorem MapF.kp {S : Nat → Prop} (h : MapF C ev w b n F) (hk : Kp S w w') (hs : ¬ S b) : MapF C ev w' b n F := h.of_block (hk.block b h.lt hs)
theorem MapF.grown {row : Option Nat} (h : MapF C ev w b n F) (hg : w.grownBy w' row) (hne : some b ≠ row) : MapF C ev w' b n F := h.of_block (hg.block b h.lt hne)

theorem MapF.made (w : World) (C : KeyCode P k A) (ev : B → Value) : MapF C ev (w.alloc (.map #[] 0)) w.heap.size 0 (fun _ => none) :=
  ⟨.map [], World.ownsMap_made w P k asHeld, fun a kl _ _ => ⟨rfl, fun z => rfl⟩, fun kl h => by cases h⟩

theorem grownBy_kp (h : w.grownBy w' (some b)) : Kp (fun i => i = b) w w' :=
  ⟨h.os, h.tape, h.output, h.size, fun i hi hn => h.block i hi (fun e => hn (by cases e; rfl))⟩

/-- 'm[k]', with 'ok' or without. -/
theorem MapF.look {t e : TypeId} (h : MapF C ev w b n F) (ht : P.underlying t = some (.map k e)) {z : Value} (hz : (zeroValue e).run P w = .ok z w) {a : A} (ha : C.ok a) (c : Bool) :
    (Instr.lookup t (.map (some b)) (C.kv a) c).run P w = .ok (if c then .tuple #[((F a).map ev).getD z, .bool (F a).isSome] else ((F a).map ev).getD z) w := by
  obtain ⟨D, h1, h2, _⟩ := h.is
  obtain ⟨kl, hkl⟩ := C.isKey a ha
  obtain ⟨e1, e2⟩ := h2 a kl ha hkl
  have hv : ∀ v ps, asHeld v = some (D.atKey kl (.held z), ps) → v = ((F a).map ev).getD z := by
    intro v ps hv
    rw [e2] at hv
    cases hF : F a with
    | none => rw [hF] at hv; simp [asHeld] at hv; simpa using hv.1
    | some x => rw [hF] at hv; simp [asHeld] at hv; simpa using hv.1
  cases c with
  | true =>
    obtain ⟨v, ps, hrun, hr⟩ := h1.look_ok C.keyed ht hz (zd := .held z) (zp := []) rfl hkl
    rw [hrun, e1, hv v ps hr]
    rfl
  | false =>
    obtain ⟨v, ps, hrun, hr⟩ := h1.lookup C.keyed ht hz (zd := .held z) (zp := []) rfl hkl
    rw [hrun, hv v ps hr]
    rfl

/-- 'm[k] = v'. -/
theorem MapF.store {t e : TypeId} (h : MapF C ev w b n F) (ht : P.underlying t = some (.map k e)) (hn : n < maxLen) {a : A} (ha : C.ok a) (x : B) (G : A → Option B) (h1 : G a = some x) (h2 : ∀ c, c ≠ a → G c = F c) :
    ∃ w', (Instr.mapUpdate t (.map (some b)) (C.kv a) (ev x)).run P w = .ok () w' ∧ MapF C ev w' b (n + 1) G ∧ w.mapTurned w' b := by
  obtain ⟨D, d1, d2, d3⟩ := h.is
  obtain ⟨kl, hkl⟩ := C.isKey a ha
  have hik := C.keyed.key hkl
  obtain ⟨w', hrun, o1, o2⟩ := d1.store C.keyed ht hn (val := ev x) (d := .held (ev x)) (ps := []) hkl rfl
  refine ⟨w', hrun, ⟨_, o1, fun c kc hc hkc => ?_, fun kc hkc => ?_⟩, o2⟩
  · by_cases hca : c = a
    · subst hca
      rw [hkl] at hkc
      cases hkc
      rw [h1]
      exact ⟨Maps.has_put_same d1.isMap hik _, fun z => Maps.atKey_put_same d1.isMap hik _ z⟩
    · have hne : kc ≠ kl := fun e => hca (C.inj c a (C.law.inj (e ▸ hkc) hkl))
      rw [h2 c hca, Maps.has_put_other hne]
      exact ⟨(d2 c kc hc hkc).1, fun z => by rw [Maps.atKey_put_other hne]; exact (d2 c kc hc hkc).2 z⟩
  · by_cases e : kc = kl
    · subst e
      exact ⟨a, ha, hkl⟩
    · rw [Maps.has_put_other e] at hkc
      exact d3 kc hkc

/-- 'delete(m, k)'. -/
theorem MapF.drop {t e : TypeId} (h : MapF C ev w b n F) (ht : P.underlying t = some (.map k e)) {a : A} (ha : C.ok a) (G : A → Option B) (h1 : G a = none) (h2 : ∀ c, c ≠ a → G c = F c) (ty : TypeId) :
    ∃ w', (Builtin.delete_ #[t, k] ty #[.map (some b), C.kv a]).run P w = .ok (.tuple #[]) w' ∧ MapF C ev w' b n G ∧ w.mapTurned w' b := by
  obtain ⟨D, d1, d2, d3⟩ := h.is
  obtain ⟨kl, hkl⟩ := C.isKey a ha
  obtain ⟨w', hrun, o1, o2⟩ := d1.drop C.keyed ht hkl ty
  refine ⟨w', hrun, ⟨_, o1, fun c kc hc hkc => ?_, fun kc hkc => ?_⟩, o2⟩
  · by_cases hca : c = a
    · subst hca
      rw [hkl] at hkc
      cases hkc
      rw [h1]
      exact ⟨Maps.has_del_same, fun z => Maps.atKey_del_same z⟩
    · have hne : kc ≠ kl := fun e => hca (C.inj c a (C.law.inj (e ▸ hkc) hkl))
      rw [h2 c hca, Maps.has_del_other hne]
      exact ⟨(d2 c kc hc hkc).1, fun z => by rw [Maps.atKey_del_other hne]; exact (d2 c kc hc hkc).2 z⟩
  · by_cases e : kc = kl
    · subst e
      exact ⟨a, ha, hkl⟩
    · rw [Maps.has_del_other e] at hkc
      exact d3 kc hkc

/-- 'm[k] = v' IN TWO STEPS: the entry, then what is in it. What stands between may change all but the map's block. -/
theorem MapF.entry {t e : TypeId} (h : MapF C ev w b n F) (L : WideMaps.KeyLaw P k) (ht : P.underlying t = some (.map k e)) (hn : n < maxLen) {z : Value} (hz : ∀ u : World, (zeroValue e).run P u = .ok z u) {a : A} (ha : C.ok a) (x : B) (G : A → Option B) (h1 : G a = some x) (h2 : ∀ c, c ≠ a → G c = F c) :
    ∃ (v0 : Value) (st : Nat) (w1 : World), (Instr.mapEntry t (.map (some b)) (C.kv a)).run P w = .ok (.tuple #[v0, .int .i64 st]) w1 ∧ w.mapTurned w1 b ∧
      ∀ w2 : World, w2.heap[b]? = w1.heap[b]? → ∃ w3, (Instr.entryStore t (.map (some b)) (.int .i64 st) (ev x)).run P w2 = .ok () w3 ∧ MapF C ev w3 b (n + 1) G ∧ w2.mapTurned w3 b := by
  obtain ⟨w', hrun, o1, o2⟩ := h.store ht hn ha x G h1 h2
  obtain ⟨D, ⟨es, clock, hb, hF, hs, hD⟩, d2, d3⟩ := h.is
  obtain ⟨kl, hkl⟩ := C.isKey a ha
  obtain ⟨v0, st, es1, clock1, r1, _, r3⟩ := WideElems.entry_then_store L ht hz hb hF hkl
  refine ⟨v0, st, _, r1, ⟨es, clock, es1, clock1, hb, rfl⟩, fun w2 hw2 => ?_⟩
  have hw2' : w2.heap[b]? = some (.map es1 clock1) := hw2.trans (ChangeMaps.heap_setBlock_same hb _)
  obtain ⟨es', clock', s1, s2⟩ := r3 w2 (ev x) hw2'
  refine ⟨_, s1, o1.of_block ?_, ⟨es1, clock1, es', clock', hw2', rfl⟩⟩
  rw [hrun] at s2
  have hw' := (Result.ok.inj s2).2
  rw [hw', ChangeMaps.heap_setBlock_same hb, ChangeMaps.heap_setBlock_same hw2']

/-! ### at the operation -/
/-- A look-up among operations that only read. -/
theorem wpStill_look {ops : Array Oper} {rest : List Oper} {o : Oper} {a : Act} {Q : Act → Prop} (hg : o.guard = none) (m x : Operand) (t : TypeId) (c : Bool) (hop : o.op = Op.lookup t m x c)
    (mv xv v : Value) (hm : a.eval m = mv) (hx : a.eval x = xv) (hrun : (Instr.lookup t mv xv c).run P w = .ok v w) (h : wpStill P ops w Q rest (a.put o.dst v)) : wpStill P ops w Q (o :: rest) a := by
  refine wpStill_step fun K hK => ?_
  have hw : Region.wanted o (yielded ops a.tmps) = true := by simp [Region.wanted, hg]
  rw [if_pos hw]
  unfold Oper.still
  simp [execOp, hop, hm, hx, hrun, Result.andThen, Oper.stillUpon]
  exact hK _ h

section
variable {ops : Array Oper} {rest : List Oper} {o : Oper} {a : Act} {Q : Exit → Act → World → Prop}

theorem wpList_mapF_drop (hg : o.guard = none) (m x : Operand) (t e : TypeId) (hop : o.op = Op.call { callee := Callee.builtin Builtin.delete, args := #[m, x], argTypes := #[t, k] })
    (h : MapF C ev w b n F) (ht : P.underlying t = some (.map k e)) (key : A) (hk : C.ok key) (G : A → Option B) (h1 : G key = none) (h2 : ∀ c, c ≠ key → G c = F c)
    (hm : a.eval m = .map (some b)) (hx : a.eval x = C.kv key) (hK : ∀ w', MapF C ev w' b n G → Kp (fun i => i = b) w w' → wpList P ops Q rest (a.put o.dst (.tuple #[])) w') : wpList P ops Q (o :: rest) a w := by
  refine wpList_plain hg fun K' hK' => ?_
  obtain ⟨w', hrun, r1, r2⟩ := h.drop ht hk G h1 h2 o.type
  unfold Oper.wp
  simp [execOp, hop, resolve, invoke, builtin, hm, hx, hrun, Result.andThen]
  exact hK' _ _ (hK w' r1 (grownBy_kp r2.grown))

theorem wpList_mapF_store (hg : o.guard = none) (m x v : Operand) (t e : TypeId) (hop : o.op = Op.mapUpdate t m x v)
    (h : MapF C ev w b n F) (ht : P.underlying t = some (.map k e)) (hn : n < maxLen) (key : A) (hk : C.ok key) (y : B) (G : A → Option B) (h1 : G key = some y) (h2 : ∀ c, c ≠ key → G c = F c)
    (hm : a.eval m = .map (some b)) (hx : a.eval x = C.kv key) (hv : a.eval v = ev y) (hK : ∀ w', MapF C ev w' b (n + 1) G → Kp (fun i => i = b) w w' → wpList P ops Q rest (a.put o.dst undef) w') : wpList P ops Q (o :: rest) a w := by
  refine wpList_plain hg fun K' hK' => ?_
  obtain ⟨w', hrun, r1, r2⟩ := h.store ht hn hk y G h1 h2
  unfold Oper.wp
  simp [execOp, hop, hm, hx, hv, hrun, Result.andThen]
  exact hK' _ _ (hK w' r1 (grownBy_kp r2.grown))
end

theorem step_run {ops : Array Oper} {o : Oper} {a : Act} {K : Act → World → Prop} {Q : Exit → Act → World → Prop} {E : Prop} (hg : o.guard = none) (v : Value) (w' : World)
    (hrun : (execOp a.eval o).run P w = .ok (.value v) w') (hK : K (a.put o.dst v) w') : if Region.wanted o (yielded ops a.tmps) = true then Oper.wp P o a w K Q else E := by
  have hw : Region.wanted o (yielded ops a.tmps) = true := by simp [Region.wanted, hg]
  rw [if_pos hw]
  unfold Oper.wp
  rw [hrun]
  exact hK

end

/-- Block b has an entry, told by the stamp st, that was made for key in a map that then reads as G. -/
def MapE {P : Program} {k : TypeId} {A B : Type} (C : KeyCode P k A) (ev : B → Value) (w1 : World) (t : TypeId) (b st n : Nat) (y : B) (G : A → Option B) : Prop :=
  ∀ w2 : World, w2.heap[b]? = w1.heap[b]? → ∃ w3, (Instr.entryStore t (.map (some b)) (.int .i64 st) (ev y)).run P w2 = .ok () w3 ∧ MapF C ev w3 b (n + 1) G ∧ w2.mapTurned w3 b

section
variable {P : Program} {k : TypeId} {A B : Type} {C : KeyCode P k A} {ev : B → Value} {w w' : World} {b n : Nat} {F : A → Option B} {ops : Array Oper} {o : Oper} {a : Act} {K : Act → World → Prop} {Q : Exit → Act → World → Prop} {E : Prop}

theorem step_mapEntry (hg : o.guard = none) (m x : Operand) (t e : TypeId) (hop : o.op = Op.mapEntry t m x) (h : MapF C ev w b n F) (L : WideMaps.KeyLaw P k) (ht : P.underlying t = some (.map k e)) (hn : n < maxLen) {z : Value} (hz : ∀ u : World, (zeroValue e).run P u = .ok z u)
    (key : A) (hk : C.ok key) (y : B) (G : A → Option B) (h1 : G key = some y) (h2 : ∀ c, c ≠ key → G c = F c) (hm : a.eval m = .map (some b)) (hx : a.eval x = C.kv key)
    (hK : ∀ (v0 : Value) (st : Nat) (w1 : World), MapE C ev w1 t b st n y G → Kp (fun i => i = b) w w1 → K (a.put o.dst (.tuple #[v0, .int .i64 st])) w1) : if Region.wanted o (yielded ops a.tmps) = true then Oper.wp P o a w K Q else E := by
  obtain ⟨v0, st, w1, hrun, r1, r2⟩ := h.entry L ht hn hz hk y G h1 h2
  refine step_run hg (.tuple #[v0, .int .i64 st]) w1 ?_ (hK v0 st w1 r2 (grownBy_kp r1.grown))
  simp [execOp, hop, hm, hx, hrun, Result.andThen]

theorem step_entryStore (hg : o.guard = none) (m s v : Operand) (t : TypeId) (hop : o.op = Op.entryStore t m s v) {w1 : World} {st : Nat} {y : B} {G : A → Option B} (h : MapE C ev w1 t b st n y G) (hw : w.heap[b]? = w1.heap[b]?)
    (hm : a.eval m = .map (some b)) (hs : a.eval s = .int .i64 st) (hv : a.eval v = ev y) (hK : ∀ w3, MapF C ev w3 b (n + 1) G → Kp (fun i => i = b) w w3 → K (a.put o.dst undef) w3) : if Region.wanted o (yielded ops a.tmps) = true then Oper.wp P o a w K Q else E := by
  obtain ⟨w3, hrun, r1, r2⟩ := h w hw
  have hwt : Region.wanted o (yielded ops a.tmps) = true := by simp [Region.wanted, hg]
  rw [if_pos hwt]
  unfold Oper.wp
  simp [execOp, hop, hm, hs, hv, hrun, Result.andThen]
  exact hK w3 r1 (grownBy_kp r2.grown)
end

#print axioms MapF.entry
end Go.Proofs.YtgjcofoicnnnhaaDoor

/- Package lmap's map: how its keys are told; what it holds; its contracts. -/
namespace Go.Proofs.YtgjcofoicnnnhaaDoor
open Go.RowKit
open Go.Maps (Keyed)

def nameV (n : Int × Int) : Value := .agg #[.int .u32 n.1, .int .u64 n.2]
def addrV (a : Int × Int) : Value := .agg #[.int .i64 a.1, .int .i64 a.2]
def NameOk (n : Int × Int) : Prop := (0 ≤ n.1 ∧ n.1 ≤ 4294967295) ∧ 0 ≤ n.2 ∧ n.2 ≤ 18446744073709551615
def AddrOk (a : Int × Int) : Prop := (-9223372036854775808 ≤ a.1 ∧ a.1 ≤ 9223372036854775807) ∧ -9223372036854775808 ≤ a.2 ∧ a.2 ≤ 9223372036854775807

theorem keys_laid : laidOutB Tryd.prog = true := by kernel_rfl
theorem keys_own : Tryd.prog.keyType 99 = true ∧ Tryd.prog.keyType 58 = true := by constructor <;> kernel_rfl
theorem keys_size : Tryd.prog.types.size + 1 = (Tryd.prog.types.size - 1) + 1 + 1 := by kernel_rfl
theorem keys_cells : Tryd.prog.cellsOf 99 = 2 ∧ Tryd.prog.cellsOf 58 = 2 ∧ Tryd.prog.cellsOf 33 = 1 ∧ Tryd.prog.cellsOf 34 = 1 ∧ Tryd.prog.cellsOf 3 = 1 := by refine ⟨?_, ?_, ?_, ?_, ?_⟩ <;> kernel_rfl

theorem nameV_key (n : Int × Int) (h : NameOk n) : ∃ kl, keyOf Tryd.prog 99 (nameV n) = some kl := by
  have h1 : (Lit.int .u32 n.1).wf = true := WalkArith.wf_u32 h.1
  have h2 : (Lit.int .u64 n.2).wf = true := WalkArith.wf_u64 h.2
  obtain ⟨c1, c2, c3, c4, c5⟩ := keys_cells
  obtain ⟨m, hm⟩ : ∃ m, Tryd.prog.types.size + 1 = m + 1 + 1 := ⟨_, keys_size⟩
  unfold keyOf
  rw [hm]
  clear hm
  simp [Tryd.underlying99, keys_own.1, nameV, Value.formed, Value.cells, Program.keyLits, Tryd.underlying33, Tryd.underlying34, c1, c3, c4, h1, h2]

theorem addrV_key (n : Int × Int) (h : AddrOk n) : ∃ kl, keyOf Tryd.prog 58 (addrV n) = some kl := by
  have h1 : (Lit.int .i64 n.1).wf = true := WalkArith.wf_i64 h.1
  have h2 : (Lit.int .i64 n.2).wf = true := WalkArith.wf_i64 h.2
  obtain ⟨c1, c2, c3, c4, c5⟩ := keys_cells
  obtain ⟨m, hm⟩ : ∃ m, Tryd.prog.types.size + 1 = m + 1 + 1 := ⟨_, keys_size⟩
  unfold keyOf
  rw [hm]
  clear hm
  simp [Tryd.underlying58, keys_own.2, addrV, Value.formed, Value.cells, Program.keyLits, Tryd.underlying3, c2, c5, h1, h2]

theorem name_row : (99 : TypeId) < Tryd.prog.types.size := of_decide_eq_true (by kernel_rfl)
theorem addr_row : (58 : TypeId) < Tryd.prog.types.size := of_decide_eq_true (by kernel_rfl)
theorem name_law : WideMaps.KeyLaw Tryd.prog 99 := deep_law_laid keys_laid (m := 2) (by omega) name_row (by kernel_rfl) (by rw [Tryd.underlying99])
theorem addr_law : WideMaps.KeyLaw Tryd.prog 58 := deep_law_laid keys_laid (m := 2) (by omega) addr_row (by kernel_rfl) (by rw [Tryd.underlying58])
def nameC : KeyCode Tryd.prog 99 (Int × Int) where
  law := Keyed.of_law name_law
  kv := nameV
  ok := NameOk
  isKey := nameV_key
  inj := by
    rintro ⟨a1, a2⟩ ⟨b1, b2⟩ h
    simp [nameV] at h
    rw [h.1, h.2]
def addrC : KeyCode Tryd.prog 58 (Int × Int) where
  law := Keyed.of_law addr_law
  kv := addrV
  ok := AddrOk
  isKey := addrV_key
  inj := by
    rintro ⟨a1, a2⟩ ⟨b1, b2⟩ h
    simp [addrV] at h
    rw [h.1, h.2]
def U32Ok (t : Int) : Prop := 0 ≤ t ∧ t ≤ 4294967295
def u32C : KeyCode Tryd.prog 33 Int where
  law := Maps.int_keyed Tryd.underlying33
  kv := .int .u32
  ok := U32Ok
  isKey := fun t h => ⟨_, Maps.keyOf_int_mk Tryd.underlying33 (WalkArith.wf_u32 h)⟩
  inj := by
    intro a b h
    injection h
end Go.Proofs.YtgjcofoicnnnhaaDoor

