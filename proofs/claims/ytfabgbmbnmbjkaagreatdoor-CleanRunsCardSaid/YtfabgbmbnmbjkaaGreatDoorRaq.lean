/- Joined texts: Ck2 Qb Qc. -/
import Derived.Test.YtfabgbmbnmbjkaaGreatDoorRao
import Derived.Test.YtfabgbmbnmbjkaaGreatDoorRap
import Derived.Test.YtfabgbmbnmbjkaaGreatDoorRal
/- Pruned. -/
namespace Go.Proofs.YtfabgbmbnmbjkaaGreatDoor
open Go.RowKit
set_option maxRecDepth 20000
def roomC (bl : Nat) : Nat := (bl - 27) / 16
theorem croom_any (s : Sh) (h : s.ok) (w : World) : Calls Tryz.prog 143 #[.int .i64 s.bl] w fun e w' => e = .returned (.int .i64 (roomC s.bl : Nat)) ∧ w = w' := by
 have hp := pow_ok h
 have h1 := h.blk
 have hq : (roomC s.bl : Nat) = ((s.bl : Int) - 27) / 16 := by unfold roomC; omega
 rw [hq]
 generalize s.bl = bl at *
 clear hq
 go_enter Tryz.func143, Tryz.ntmps143
 go_wp2
 go_ret
 exact ⟨ret_int (by omega), rfl⟩
theorem cmay_nil (s : Sh) (w : World) : Calls Tryz.prog 142 #[shV s, .slice none 0 0] w (Makes (.bool true) w) := by
 unfold shV
 go_enter Tryz.func142, Tryz.ntmps142
 go_wp2_with (fail)
 go_loopw [10] (fun i wr => i = .int .i64 0 ∧ Hid (Below w.heap.size w wr)) (fun _ _ => 0)
 case atStart => exact ⟨rfl, (Below.refl _ _).alloc (Nat.le_refl _) _⟩
 case round =>
  obtain ⟨rfl, hb⟩ := hrel
  go_wp2
  go_ret
  exact ⟨rfl, hb.out⟩
theorem cencode_nil (s : Sh) (hs : s.ok) (seq : Int) (hq : 0 <= seq ∧ seq <= 18446744073709551615) (w : World) :
    Calls Tryz.prog 83 #[shV s, .agg #[.int .u64 seq, .slice none 0 0]] w
      (fun e w' => ∃ g A c, e = .returned (.tuple #[.slice (some ⟨g, 0, none⟩) 1 1, .int .u16 0]) ∧ Blk w' g 36 #[.slice A s.bl c] ∧ BRow w' w.heap.size A c (doneB (headC 0 1 seq 0) s.bl) ∧ w.heap.size <= g ∧ Below w.heap.size w w') := by
 have HR := Lib.hid (fun w => right_any s.z s.zb s.bl s.rs w (by have := hs.facts; omega) (by have := hs.facts; omega))
 rw [hs.is] at HR
 have HM := Lib.hid (cmay_nil s)
 have HRM := Lib.hid (croom_any s hs)
 have HB := Lib.hid (block_nil s hs 0 1 seq (by omega) (by omega) hq)
 have hbl := hs.blk
 have hzb := hs.facts
 have hzb0 : ¬ (s.zb : Int) < 1 := by omega
 have hr1 : 1 <= roomC s.bl := by unfold roomC; omega
 have hr2 : roomC s.bl <= 4096 := by unfold roomC; omega
 obtain ⟨r, hr⟩ : ∃ r, roomC s.bl = r + 1 := ⟨roomC s.bl - 1, by omega⟩
 rw [hr] at HRM hr1 hr2
 have hdiv : (r : Int) / ((r : Int) + 1) = 0 := Int.ediv_eq_zero_of_lt (by omega) (by omega)
 unfold shV at *
 clear hs hq hr hzb
 go_enter Tryz.func83, Tryz.ntmps83
 go_wp2_with (fail)
 refine (HR.out _).mono ?_
 rintro e w1 ⟨rfl, hb1⟩
 have k0 := ((Blk.new w 23 #[.int .i64 s.z, .int .i64 s.zb, .int .i64 s.bl, .int .i64 s.rs]).alloc (.cells #[.int .u64 seq, .slice none 0 0] 82)).below hb1 (by simp; omega)
 have k1 := (Blk.new (w.alloc (.cells #[.int .i64 s.z, .int .i64 s.zb, .int .i64 s.bl, .int .i64 s.rs] 23)) 82 #[.int .u64 seq, .slice none 0 0]).below hb1 (by simp)
 rw [World.size_alloc] at k1
 have hw1 : Below w.heap.size w w1 := (((Below.refl _ w).alloc (Nat.le_refl _) _).alloc (by simp) _).trans (hb1.mono (by simp; omega))
 have HK := Lib.hid (And.intro k0 (And.intro k1 hw1))
 have c0 : w1.cell? ⟨w.heap.size, 0, none⟩ = some (.int .i64 s.z) := k0.cell 0
 have c1 : w1.cell? ⟨w.heap.size, 1, none⟩ = some (.int .i64 s.zb) := k0.cell 1
 have c2 : w1.cell? ⟨w.heap.size, 2, none⟩ = some (.int .i64 s.bl) := k0.cell 2
 have c3 : w1.cell? ⟨w.heap.size, 3, none⟩ = some (.int .i64 s.rs) := k0.cell 3
 have d1 : w1.cell? ⟨w.heap.size + 1, 1, none⟩ = some (.slice none 0 0) := k1.cell 1
 clear hb1 k0 k1 hw1 HR
 go_wp2_with (fail)
 refine (HM.out _).mono ?_
 rintro e w2 ⟨rfl, hb2⟩
 have k0 := HK.out.1.below hb2 HK.out.1.lt
 have k1 := HK.out.2.1.below hb2 HK.out.2.1.lt
 have hw2 := HK.out.2.2.trans (hb2.mono HK.out.2.2.size)
 have HK2 := Lib.hid (And.intro k0 (And.intro k1 hw2))
 clear c0 c1 c2 c3 d1 hb2 hw2 HK HM
 have c0 : w2.cell? ⟨w.heap.size, 0, none⟩ = some (.int .i64 s.z) := k0.cell 0
 have c1 : w2.cell? ⟨w.heap.size, 1, none⟩ = some (.int .i64 s.zb) := k0.cell 1
 have c2 : w2.cell? ⟨w.heap.size, 2, none⟩ = some (.int .i64 s.bl) := k0.cell 2
 have c3 : w2.cell? ⟨w.heap.size, 3, none⟩ = some (.int .i64 s.rs) := k0.cell 3
 have d0 : w2.cell? ⟨w.heap.size + 1, 0, none⟩ = some (.int .u64 seq) := k1.cell 0
 have d1 : w2.cell? ⟨w.heap.size + 1, 1, none⟩ = some (.slice none 0 0) := k1.cell 1
 have g0 := k0.lt
 have g1 := k1.lt
 clear k0 k1
 go_wp2_with (fail)
 refine (HRM.out _).mono ?_
 rintro e w' ⟨rfl, rfl⟩
 go_wp2_with (fail)
 have hw3 : Below w.heap.size w (w2.alloc (.cells #[.int .i64 1] 3)) := HK2.out.2.2.alloc HK2.out.2.2.size _
 clear c0 c1 c2 c3 d0 d1 g0 g1 HK2 HRM
 generalize w2.alloc (.cells #[.int .i64 1] 3) = w3 at *
 refine (HB.out _).mono ?_
 rintro e w4 ⟨A4, c4, rfl, hb4, hbl4⟩
 have HB4 := Lib.hid (And.intro hb4 (hw3.trans (hbl4.mono hw3.size)))
 have hs34 := Lib.hid (Nat.le_trans hw3.size (Nat.le_refl _))
 clear hb4 hbl4 hdiv
 go_wp2
 go_ret2
 have hw4 := HB4.out.2
 exact ⟨w4.heap.size, A4, c4, rfl, Blk.new w4 _ _, (HB4.out.1.rebase (fun b hb => Nat.le_trans hw3.size (HB4.out.1.lt hb).1)).alloc _, hw4.size, hw4.alloc hw4.size _⟩
def saveP (P : List Part) (z : Nat) (b : List Int) : List Part := flushP (appP (P.set z pt0) z b)
theorem csave_nil (X : Nat -> Prop) (w : World) (d : Nat) (s : Sh) (P : List Part) (z : Nat) (hz : z < 2) (seq : Int) (hq : 0 <= seq ∧ seq <= 18446744073709551615) (h : DevIs X w d s P) :
    Calls Tryz.prog 42 #[.pointer (some ⟨d, 0, none⟩), .int .i64 z, .agg #[.int .u64 seq, .slice none 0 0]] w
      (fun e w' => e = .returned (.int .u16 0) ∧ DevIs X w' d s (saveP P z (doneB (headC 0 1 seq 0) s.bl)) ∧ Kp (fun b => ¬ X b) w w') := by
 have hsz := h.sz
 have hs := h.ok
 have hf := hs.facts
 have hzP : z < P.length := by omega
 have HE := Lib.hid (cencode_nil s hs seq hq)
 have HS := Lib.hid (fun u (hu : DevIs X u d s P) => shape_any X u d s P hu)
 have HLEN : Hid ((doneB (headC 0 1 seq 0) s.bl).length = s.bl) := doneB_length _ _ (by rw [headC_length]; omega) (by omega)
 have HBD : Hid (∀ x ∈ doneB (headC 0 1 seq 0) s.bl, ByteOk x) := doneB_bd _ _ (packS_bd _ _)
 have HD := Lib.hid h
 have HSP : Hid (saveP P z (doneB (headC 0 1 seq 0) s.bl) = flushP (appP (P.set z pt0) z (doneB (headC 0 1 seq 0) s.bl))) := rfl
 have HZ := Lib.hid (And.intro hzP (And.intro (show 0 < s.zb by omega) hs))
 have hz2 : (z : Int) < 2 := by omega
 generalize saveP P z (doneB (headC 0 1 seq 0) s.bl) = PQ at *
 generalize doneB (headC 0 1 seq 0) s.bl = bb at *
 clear h hsz hs hf hzP
 go_enter Tryz.func42, Tryz.ntmps42
 go_wp2_with (fail)
 have k0 := Blk.new w 82 #[.int .u64 seq, .slice none 0 0]
 have hd1 := HD.out.alloc (.cells #[.int .u64 seq, .slice none 0 0] 82)
 have hk1 := (Kp.refl (fun b => ¬ X b) w).alloc (.cells #[.int .u64 seq, .slice none 0 0] 82)
 generalize w.alloc (.cells #[.int .u64 seq, .slice none 0 0] 82) = w1 at *
 have ks : w1.cell? ⟨w.heap.size, 0, none⟩ = some (.int .u64 seq) ∧ w1.cell? ⟨w.heap.size, 1, none⟩ = some (.slice none 0 0) := ⟨k0.cell 0, k0.cell 1⟩
 have HS1 := Lib.hid (HS.out _ hd1.drew)
 unfold shV at HS1 HE
 have HD1 := Lib.hid (And.intro hd1 hk1)
 clear k0 hd1 hk1 HS
 go_region_held3 (fun u => u.cell? ⟨w.heap.size, 0, none⟩ = some (.int .u64 seq) ∧ u.cell? ⟨w.heap.size, 1, none⟩ = some (.slice none 0 0))
   (first | exact ks | exact ks2 | exact ks3)
   (first
     | (go_at_call 75
        with_reducible refine HS1.out.mono ?_
        rintro e w2 ⟨rfl, hb⟩
        have ks2 : w2.cell? ⟨w.heap.size, 0, none⟩ = some (.int .u64 seq) ∧ w2.cell? ⟨w.heap.size, 1, none⟩ = some (.slice none 0 0) := ⟨below_keep hb ks.1, below_keep hb ks.2⟩
        have HD2 := Lib.hid (And.intro (HD1.out.1.drew.below hb) ((HD1.out.2.drewN 1).trans (Kp.of_below (S := fun b => ¬ X b) hb) (fun _ _ h => h)))
        clear hb)
     | (go_at_call 83
        refine (HE.out _).mono ?_
        rintro e w3 ⟨g, A3, c3, rfl, hg3, hr3, hgl, hb⟩
        have ks3 : w3.cell? ⟨w.heap.size, 0, none⟩ = some (.int .u64 seq) ∧ w3.cell? ⟨w.heap.size, 1, none⟩ = some (.slice none 0 0) := ⟨below_keep hb ks2.1, below_keep hb ks2.2⟩
        obtain ⟨ga, hA3, _⟩ := hr3.at_ (k := 0) (by have := HLEN.out; have := HZ.out.2.2.blk; omega)
        subst hA3
        have hga := hr3.lt (b := ga) rfl
        have HD3 : Hid (DevIs (fun b => X b ∨ b = g ∨ b = ga) w3 d s P ∧ Kp (fun b => ¬ X b) w w3) := ⟨HD2.out.1.move (fun b hlt _ => hb.block b hlt) (fun b hx => by
         rcases hx with hx | rfl | rfl
         · exact ⟨Nat.lt_of_lt_of_le (HD2.out.1.cl b hx) hb.size, .inl hx⟩
         · exact ⟨hg3.lt, .inr hgl⟩
         · exact ⟨hga.2, .inr hga.1⟩), HD2.out.2.trans (Kp.of_below (S := fun b => ¬ X b) hb) (fun _ _ h => h)⟩
        have HG3 := Lib.hid (And.intro hg3 (hr3.rebase (base' := 0) (fun _ _ => Nat.zero_le _)))
        clear hb hg3 hr3 hgl hga))
 all_goals
  clear ks ks2 ks3 HD1 HD2 HS1
  go_wp2_with (fail)
  refine (zreset_any _ w3 d s P z HZ.out.1 HD3.out.1).mono ?_
  rintro e w4 ⟨rfl, hd4, hk4⟩
  have hg4 := hk4.blk HG3.out.1 (fun h => h (.inr (.inl rfl)))
  have hb4 : BRow w4 0 (some ⟨ga, 0, none⟩) c3 bb := HG3.out.2.kp hk4 (fun b hb => by
   have : ga = b := by simpa [Value.ownBlock] using hb
   exact fun h => h (.inr (.inr this.symm)))
  have HS4 : Hid (DevIs (fun b => X b ∨ b = g ∨ b = ga) w4 d s (P.set z pt0) ∧ Kp (fun b => ¬ X b) w w4 ∧ Blk w4 g 36 #[.slice (some ⟨ga, 0, none⟩) s.bl c3] ∧ BRow w4 0 (some ⟨ga, 0, none⟩) c3 bb) :=
   ⟨hd4, HD3.out.2.trans hk4 (fun b _ h hx => h (.inl hx)), hg4, hb4⟩
  clear hd4 hk4 hg4 hb4 HD3 HG3
  go_wp2_with (fail)
  go_loopw [32] (fun i wr => (i = .int .i64 0 ∧ Hid (DevIs (fun b => X b ∨ b = g ∨ b = ga) wr d s (P.set z pt0) ∧ Kp (fun b => ¬ X b) w wr ∧ Blk wr g 36 #[.slice (some ⟨ga, 0, none⟩) s.bl c3] ∧ BRow wr 0 (some ⟨ga, 0, none⟩) c3 bb)) ∨ (i = .int .i64 1 ∧ Hid (DevIs X wr d s (appP (P.set z pt0) z bb) ∧ Kp (fun b => ¬ X b) w wr))) (fun i _ => 1 - (intOf i).toNat)
  case atStart => exact .inl ⟨rfl, HS4⟩
  case round =>
   rcases hrel with ⟨rfl, h0⟩ | ⟨rfl, h1⟩
   · clear HS4
     have c0 : wr.cell? ⟨g, 0, none⟩ = some (.slice (some ⟨ga, 0, none⟩) s.bl c3) := h0.out.2.2.1.cell 0
     have hzl : z < (P.set z pt0).length := by have := HZ.out.1; simpa using this
     have hrd := h0.out.2.2.2.reads
     have HA := Lib.hid (zappend_any _ wr d s (P.set z pt0) z hzl h0.out.1 _ _ c3 bb HLEN.out HBD.out (by rw [getD_set_same _ _ _ _ HZ.out.1]; exact HZ.out.2.1) hrd)
     rw [HLEN.out] at HA
     clear hzl hrd
     go_wp2_with (fail)
     refine HA.out.mono ?_
     rintro e w5 ⟨rfl, hd5, hk5⟩
     have HS5 : Hid (DevIs X w5 d s (appP (P.set z pt0) z bb) ∧ Kp (fun b => ¬ X b) w w5) := ⟨hd5.less (fun b hb => .inl hb), h0.out.2.1.trans hk5 (fun b _ h hx => h (.inl hx))⟩
     clear hd5 hk5 c0 HA h0
     go_wp2
     go_roundw
     case rel => exact .inr ⟨rfl, HS5⟩
     case measure => simp [intOf]
   · clear HS4
     go_wp2_with (fail)
     refine (zflush_any X wr d s _ h1.out.1).mono ?_
     rintro e w6 ⟨rfl, hd6, hk6⟩
     have HS6 := Lib.hid (And.intro hd6 (h1.out.2.trans hk6 (fun _ _ h => h)))
     clear hd6 hk6
     go_wp2
     go_ret
     rw [HSP.out]
     exact ⟨rfl, HS6.out.1, HS6.out.2⟩
end Go.Proofs.YtfabgbmbnmbjkaaGreatDoor

/- Pruned. -/
namespace Go.Proofs.YtfabgbmbnmbjkaaGreatDoor
open Go.RowKit
set_option maxRecDepth 20000
theorem qpow_at {bl : Nat} {x : Int} (hb : bl = 64 ∨ bl = 128 ∨ bl = 256 ∨ bl = 512 ∨ bl = 1024 ∨ bl = 2048 ∨ bl = 4096) (hx : PX x) (hl : x <= bl) : x <= 4096 ∧ 64 <= x ∧ (x = bl ∨ (PX (2 * x) ∧ 2 * x <= bl)) := by
 unfold PX at *
 omega
theorem qroom_any (s : Sh) (hs : s.ok) (w : World) : Calls Tryz.prog 175 #[.int .i64 s.bl] w fun e w' => e = .returned (.int .i64 (roomN s.bl : Nat)) ∧ w = w' := by
 have hb := hs.facts.2.2.2.2.1
 have h1 := hs.blk
 have hq : (roomN s.bl : Nat) = ((s.bl : Int) - 19) / 19 := by unfold roomN; omega
 rw [hq]
 have HB := Lib.hid hb
 clear hq hb hs
 generalize s.bl = bl at *
 go_enter Tryz.func175, Tryz.ntmps175
 go_wp2_with (fail)
 go_loop [3] (fun i => ∃ x : Int, i = .int .i64 x ∧ Hid (PX x ∧ x <= bl)) (fun i => 8192 - (intOf i).toNat)
 case atStart => exact ⟨64, rfl, .inl rfl, by omega⟩
 case round =>
  obtain ⟨x, rfl, hx⟩ := hrel
  obtain ⟨h2, h3, h4⟩ := qpow_at HB.out hx.out.1 hx.out.2
  rcases h4 with rfl | h4
  · go_wp2
    go_ret
    exact ⟨ret_int (by omega), rfl⟩
  · have hne : (x == (bl : Int)) = false := by rw [beq_eq_false_iff_ne]; omega
    have HX := Lib.hid h4
    clear h4 hx
    go_wp2
    go_round
    case rel => exact ⟨2 * x, by go_num, HX⟩
    case measure => simp [intOf]; omega
theorem qroomc_any (s : Sh) (hs : s.ok) (w : World) : Calls Tryz.prog 150 #[.int .i64 s.bl] w fun e w' => e = .returned (.int .i64 (roomC s.bl : Nat)) ∧ w = w' := by
 have hb := hs.facts.2.2.2.2.1
 have h1 := hs.blk
 have hq : (roomC s.bl : Nat) = ((s.bl : Int) - 27) / 16 := by unfold roomC; omega
 rw [hq]
 have HB := Lib.hid hb
 clear hq hb hs
 generalize s.bl = bl at *
 go_enter Tryz.func150, Tryz.ntmps150
 go_wp2_with (fail)
 go_loop [3] (fun i => ∃ x : Int, i = .int .i64 x ∧ Hid (PX x ∧ x <= bl)) (fun i => 8192 - (intOf i).toNat)
 case atStart => exact ⟨64, rfl, .inl rfl, by omega⟩
 case round =>
  obtain ⟨x, rfl, hx⟩ := hrel
  obtain ⟨h2, h3, h4⟩ := qpow_at HB.out hx.out.1 hx.out.2
  rcases h4 with rfl | h4
  · go_wp2
    go_ret
    exact ⟨ret_int (by omega), rfl⟩
  · have hne : (x == (bl : Int)) = false := by rw [beq_eq_false_iff_ne]; omega
    have HX := Lib.hid h4
    clear h4 hx
    go_wp2
    go_round
    case rel => exact ⟨2 * x, by go_num, HX⟩
    case measure => simp [intOf]; omega
theorem qends_any (w : World) (B : Nat) (A : Option Addr) (c : Nat) (l : List Int) (h : Reads w B 1 A l.length (nums .u8 l)) (hl : l.length <= 100000000) :
    Calls Tryz.prog 176 #[.slice A l.length c] w fun e w' => e = .returned (.int .i64 (endsN l : Nat)) ∧ w = w' := by
 have HR := Lib.hid h
 clear h
 go_enter Tryz.func176, Tryz.ntmps176
 go_wp2_with (fail)
 go_loop [3, 4] (fun x i => ∃ k : Nat, k <= l.length ∧ i = .int .i64 k ∧ x = .int .i64 (endsTo l k : Nat)) (fun _ i => l.length - (intOf i).toNat)
 case atStart => exact ⟨0, Nat.zero_le _, rfl, rfl⟩
 case round =>
  obtain ⟨k, hk, rfl, rfl⟩ := hrel
  by_cases hlt : k < l.length
  · obtain ⟨ai, rfl, _, hcj⟩ := HR.out.num hlt
    by_cases hz : l.getD k 0 = 0
    · have HE : Hid (endsTo l (k + 1) = endsTo l k) := by
       unfold Hid
       rw [endsTo, if_pos hz]
      rw [hz] at hcj
      clear hz
      go_wp2
      go_round
      case rel => exact ⟨k + 1, hlt, by go_num, by rw [HE.out]⟩
      case measure => simp [intOf]; omega
    · have HE : Hid (endsTo l (k + 1) = k + 1) := by
       unfold Hid
       rw [endsTo, if_neg hz]
      have hz1 : (l.getD k 0 == 0) = false := by rw [beq_eq_false_iff_ne]; exact hz
      generalize l.getD k 0 = y at *
      clear hz
      go_wp2
      go_round
      case rel => exact ⟨k + 1, hlt, by go_num, by rw [HE.out]; go_num⟩
      case measure => simp [intOf]; omega
  · obtain rfl : k = l.length := by omega
    go_wp2
    go_ret
    exact ⟨rfl, rfl⟩
theorem fillB_by (f : List Int) (bl : Nat) (h : f.length + 1 <= bl) : fillB f bl = f ++ List.replicate (bl - 1 - f.length) 0 ++ [231] := by
 unfold fillB
 obtain ⟨m, rfl⟩ : ∃ m, bl = f.length + (m + 1) := ⟨bl - f.length - 1, by omega⟩
 rw [show f.length + (m + 1) - f.length = m + 1 by omega, show f.length + (m + 1) - 1 = f.length + m by omega, show f.length + m - f.length = m by omega, List.replicate_succ', <- List.append_assoc, List.set_append_right _ _ (by simp)]
 simp
theorem sumB_take (b : List Int) (S : Int) (h : 8 <= b.length) (k : Nat) (hk : k < 4) : (b.take 4 ++ ((beB 4 S).take k ++ b.drop (4 + k))).set (4 + k) ((beB 4 S).getD k 0) = b.take 4 ++ ((beB 4 S).take (k + 1) ++ b.drop (4 + (k + 1))) := by
 have h4 : (b.take 4).length = 4 := by simp; omega
 have hl := beB_length 4 S
 generalize beB 4 S = q at *
 have hq : (q.take k).length = k := by simp; omega
 rw [List.set_append_right _ _ (by omega), h4, List.set_append_right _ _ (by omega), hq, show 4 + k - 4 - k = 0 by omega, List.drop_eq_getElem_cons (by omega : 4 + k < b.length), List.set_cons_zero, List.take_succ_eq_append_getElem (show k < q.length by omega), List.getD_eq_getElem?_getD, List.getElem?_eq_getElem (by omega)]
 simp only [Option.getD_some, List.append_assoc, List.cons_append, List.nil_append, Nat.add_assoc]
theorem head0 (n : List Int) (a v : Int) (vs : List Int) (ws : List Int) (hv : v = 0) : (packS (4 :: 4 :: ws) (a :: v :: vs) ++ n).take 4 ++ ([0, 0, 0, 0] ++ (packS (4 :: 4 :: ws) (a :: v :: vs) ++ n).drop 8) = packS (4 :: 4 :: ws) (a :: v :: vs) ++ n := by
 subst hv
 have e : packS (4 :: 4 :: ws) (a :: 0 :: vs) = beB 4 a ++ ([0, 0, 0, 0] ++ packS ws vs) := by
  simp [packS, widthN, beB, List.range, List.range.loop]
 have hl := beB_length 4 a
 rw [e]
 generalize beB 4 a = q at *
 simp [List.drop_append, hl]
theorem encR_is (seq : Int) (its : List It) (bl : Nat) (h : its.length <= roomN bl) (hb : 64 <= bl) : encR seq its bl = doneB (frontR seq its its.length) bl := by
 have h1 := roomN_fit h hb
 have hf := frontR_length seq its its.length (Nat.le_refl _)
 have e : (fillB (frontR seq its its.length) bl).take 4 ++ [0, 0, 0, 0] ++ (fillB (frontR seq its its.length) bl).drop 8 = fillB (frontR seq its its.length) bl := by
  rw [fillB_by _ _ (by omega)]
  simp only [frontR, headR, List.append_assoc]
  exact head0 _ _ _ _ _ rfl
 unfold encR doneB
 rw [e]
end Go.Proofs.YtfabgbmbnmbjkaaGreatDoor

/- Pruned. -/
namespace Go.Proofs.YtfabgbmbnmbjkaaGreatDoor
open Go.RowKit
set_option maxRecDepth 20000
theorem qlits (w10 : World) (S : Int) (hS : U32 S) :
    Calls Tryz.prog 151 #[.slice (some ⟨w10.heap.size, 0, none⟩) 1 1, .slice (some ⟨w10.heap.size + 1, 0, none⟩) 1 1] ((w10.alloc (.cells #[.int .i64 4] 3)).alloc (.cells #[.int .u64 S] 40)) (fun e w' => ∃ A c, e = .returned (.slice A 4 c) ∧ BRow w' w10.heap.size A c (beB 4 S) ∧ Below w10.heap.size w10 w') := by
 have h1 := (Blk.new w10 3 #[.int .i64 4]).alloc (.cells #[.int .u64 S] 40)
 have h2 := Blk.new (w10.alloc (.cells #[.int .i64 4] 3)) 40 #[.int .u64 S]
 rw [World.size_alloc] at h2
 have hb := ((Below.refl w10.heap.size w10).alloc (Nat.le_refl _) (.cells #[.int .i64 4] 3)).alloc (by simp) (.cells #[.int .u64 S] 40)
 generalize (w10.alloc (.cells #[.int .i64 4] 3)).alloc (.cells #[.int .u64 S] 40) = u at *
 have h := qpack_any u _ _ _ _ 1 1 [4] [S] (reads_lit h1 rfl) (reads_lit h2 rfl) (by simp) (by simp) (by
  intro x hx
  simp only [List.mem_cons, List.not_mem_nil, or_false] at hx
  have := hS.1
  have := hS.2
  omega)
 refine h.mono ?_
 rintro e w11 ⟨A11, c11, rfl, hr11, hb11⟩
 have e11 : packS [4] [S] = beB 4 S := by simp [packS, widthN]
 rw [e11] at hr11 ⊢
 refine ⟨A11, c11, by rw [beB_length], hr11.rebase (fun b hb' => ?_), hb.trans (hb11.mono hb.size)⟩
 have := (hr11.lt hb').1
 have := hb.size
 omega
set_option maxHeartbeats 4000000 in
theorem qencode_any (s : Sh) (hs : s.ok) (seq : Int) (hq : 0 <= seq ∧ seq <= 18446744073709551615) (its : List It) (A : Option Addr) (c : Nat) (w : World) (h : ItsAt w A its) (hok : ∀ i ∈ its, ItOk i) (h0 : 0 < its.length) (hn : its.length <= roomN s.bl) :
    Calls Tryz.prog 177 #[.agg #[.int .u64 seq, .slice A its.length c], .int .i64 s.bl] w
      (fun e w' => ∃ A' c', e = .returned (.tuple #[.slice A' s.bl c', .int .i64 0]) ∧ BRow w' w.heap.size A' c' (encR seq its s.bl) ∧ Below w.heap.size w w') := by
 have hfit := roomN_fit hn hs.blk.1
 have hbl := hs.blk
 have HE := Lib.hid (encR_is seq its s.bl hn hs.blk.1)
 have HRM := Lib.hid (qroom_any s hs)
 have HI := Lib.hid h
 have HO := Lib.hid hok
 have hnz : ((its.length : Int) == 0) = false := by rw [beq_eq_false_iff_ne]; omega
 have hrn : ¬ ((roomN s.bl : Nat) : Int) < its.length := by omega
 clear h hok hs
 go_enter Tryz.func177, Tryz.ntmps177
 go_wp2_with (fail)
 refine (HRM.out _).mono ?_
 rintro e w' ⟨rfl, rfl⟩
 have hb0 := Blk.new w 190 #[.int .u64 seq, .slice A its.length c]
 have hbl0 := (Below.refl w.heap.size w).alloc (Nat.le_refl _) (.cells #[.int .u64 seq, .slice A its.length c] 190)
 generalize w.alloc (.cells #[.int .u64 seq, .slice A its.length c] 190) = w2 at *
 have d0 : w2.cell? ⟨w.heap.size, 0, none⟩ = some (.int .u64 seq) := hb0.cell 0
 have d1 : w2.cell? ⟨w.heap.size, 1, none⟩ = some (.slice A its.length c) := hb0.cell 1
 have hltB : w.heap.size < w2.heap.size := hb0.lt
 have HB2 := Lib.hid hb0
 have HBL2 := Lib.hid hbl0
 clear hb0 hbl0 HRM
 go_wp2_with (fail)
 have HBL3 : Hid (Below w.heap.size w ((w2.alloc (.cells #[.int .i64 4, .int .i64 4, .int .i64 8, .int .i64 2] 3)).alloc (.cells #[.int .u64 1129074503, .int .u64 0, .int .u64 seq, .int .u64 its.length] 40))) := (HBL2.out.alloc (by omega) _).alloc (by simp; omega) _
 have ha := (Blk.new w2 3 #[.int .i64 4, .int .i64 4, .int .i64 8, .int .i64 2]).alloc (.cells #[.int .u64 1129074503, .int .u64 0, .int .u64 seq, .int .u64 its.length] 40)
 have hb := Blk.new (w2.alloc (.cells #[.int .i64 4, .int .i64 4, .int .i64 8, .int .i64 2] 3)) 40 #[.int .u64 1129074503, .int .u64 0, .int .u64 seq, .int .u64 its.length]
 have hb0 := (HB2.out.alloc (.cells #[.int .i64 4, .int .i64 4, .int .i64 8, .int .i64 2] 3)).alloc (.cells #[.int .u64 1129074503, .int .u64 0, .int .u64 seq, .int .u64 its.length] 40)
 rw [World.size_alloc] at hb
 clear d0 d1
 generalize (w2.alloc (.cells #[.int .i64 4, .int .i64 4, .int .i64 8, .int .i64 2] 3)).alloc (.cells #[.int .u64 1129074503, .int .u64 0, .int .u64 seq, .int .u64 its.length] 40) = w3 at *
 refine (qpack_any w3 _ _ _ _ 4 4 [4, 4, 8, 2] [1129074503, 0, seq, its.length] (reads_lit ha rfl) (reads_lit hb rfl) (by simp) (by simp) (by
  intro x hx
  simp only [List.mem_cons, List.not_mem_nil, or_false] at hx
  rcases hx with rfl | rfl | rfl | rfl <;> omega)).mono ?_
 rintro e w4 ⟨A4, c4, rfl, hr4, hb4⟩
 have hb0 := hb0.below hb4 hb0.lt
 have HBL4 := Lib.hid (HBL3.out.trans (hb4.mono HBL3.out.size))
 have hr4' : BRow w4 (w.heap.size + 1) A4 c4 (frontR seq its 0) := by
  have e : frontR seq its 0 = packS [4, 4, 8, 2] [1129074503, 0, seq, its.length] := by simp [frontR, headR]
  rw [e]
  exact hr4.rebase (fun b hb => by have := (hr4.lt hb).1; have := ha.lt; omega)
 have e0 : packS [4, 4, 8, 2] [1129074503, 0, seq, its.length] = frontR seq its 0 := by simp [frontR, headR]
 rw [e0]
 have HR4 : Hid (BRow w4 (w.heap.size + 1) A4 c4 (frontR seq its 0) ∧ Blk w4 w.heap.size 190 #[.int .u64 seq, .slice A its.length c] ∧ Below w.heap.size w w4) := ⟨hr4', hb0, HBL4.out⟩
 have HFL := Lib.hid (fun k h => frontR_length seq its k h)
 clear hr4 hr4' hb0 hb4 ha hb e0 HBL4 HBL3 HB2 HBL2 hltB
 go_wp2_with (fail)
 go_loopw [7, 8] (fun o i wr => ∃ (k : Nat) (A5 : Option Addr) (c5 : Nat), k <= its.length ∧ i = .int .i64 k ∧ o = .slice A5 (frontR seq its k).length c5 ∧ Hid (BRow wr (w.heap.size + 1) A5 c5 (frontR seq its k) ∧ Blk wr w.heap.size 190 #[.int .u64 seq, .slice A its.length c] ∧ Below w.heap.size w wr)) (fun _ i _ => its.length - (intOf i).toNat)
 case atStart => exact ⟨0, A4, c4, Nat.zero_le _, rfl, rfl, HR4⟩
 case round =>
  obtain ⟨k, A5, c5, hk, rfl, rfl, hR⟩ := hrel
  clear HR4
  have d1 : wr.cell? ⟨w.heap.size, 1, none⟩ = some (.slice A its.length c) := hR.out.2.1.cell 1
  by_cases hlt : k < its.length
  · obtain ⟨g, rfl, hat⟩ := (HI.out.below hR.out.2.2) k hlt
    obtain ⟨i0, i1, i2, i3, i4⟩ := hat
    have HOX := Lib.hid (HO.out _ (getD_mem (d := it0) hlt))
    have HFS := Lib.hid (frontR_succ seq its k hlt)
    have HFK := Lib.hid (HFL.out k hk)
    have hwg : w.heap.size < wr.heap.size := hR.out.2.1.lt
    generalize its.getD k it0 = x at *
    generalize frontR seq its k = F at *
    obtain ⟨xt, xb, xk, xs, xe⟩ := x
    have t0 : 0 <= xt := HOX.out.t.1
    have t1 : xt <= 4294967295 := HOX.out.t.2
    have s0 : 0 <= xs := HOX.out.s.1
    have s1 : xs <= 4294967295 := HOX.out.s.2
    have e0 : 0 <= xe := HOX.out.e.1
    have e1 : xe <= 65535 := HOX.out.e.2
    have HBB : Hid (0 <= xb ∧ xb <= 18446744073709551615) := HOX.out.b
    have hkk := HOX.out.kk
    simp only at i0 i1 i2 i3 i4 hkk
    rcases hkk with ⟨rfl, hke⟩ | ⟨rfl, rfl, rfl⟩
    · have ha := ((Blk.new (wr.alloc (.cells #[.int .u32 xt, .int .u64 xb, .int .u8 1, .int .u32 xs, .int .u16 xe] 192)) 3 #[.int .i64 4, .int .i64 8, .int .i64 1, .int .i64 4, .int .i64 2]).alloc (.cells #[.int .u64 xt, .int .u64 xb, .int .u64 1, .int .u64 xs, .int .u64 xe] 40))
      have hb := Blk.new ((wr.alloc (.cells #[.int .u32 xt, .int .u64 xb, .int .u8 1, .int .u32 xs, .int .u16 xe] 192)).alloc (.cells #[.int .i64 4, .int .i64 8, .int .i64 1, .int .i64 4, .int .i64 2] 3)) 40 #[.int .u64 xt, .int .u64 xb, .int .u64 1, .int .u64 xs, .int .u64 xe]
      simp only [World.size_alloc] at ha hb
      have hw3 : Below wr.heap.size wr (((wr.alloc (.cells #[.int .u32 xt, .int .u64 xb, .int .u8 1, .int .u32 xs, .int .u16 xe] 192)).alloc (.cells #[.int .i64 4, .int .i64 8, .int .i64 1, .int .i64 4, .int .i64 2] 3)).alloc (.cells #[.int .u64 xt, .int .u64 xb, .int .u64 1, .int .u64 xs, .int .u64 xe] 40)) := (((Below.refl _ wr).alloc (Nat.le_refl _) _).alloc (by simp) _).alloc (by simp; omega) _
      have HP := Lib.hid (And.intro ha (And.intro hb hw3))
      clear ha hb hw3
      go_wp2_with (fail)
      obtain ⟨ha, hb, hw3⟩ := HP.out
      clear HP
      generalize ((wr.alloc (.cells #[.int .u32 xt, .int .u64 xb, .int .u8 1, .int .u32 xs, .int .u16 xe] 192)).alloc (.cells #[.int .i64 4, .int .i64 8, .int .i64 1, .int .i64 4, .int .i64 2] 3)).alloc (.cells #[.int .u64 xt, .int .u64 xb, .int .u64 1, .int .u64 xs, .int .u64 xe] 40) = w5 at *
      refine (qpack_any w5 _ _ _ _ 5 5 [4, 8, 1, 4, 2] [xt, xb, 1, xs, xe] (reads_lit ha rfl) (reads_lit hb rfl) (by simp) (by simp) (by
       have hbb := HBB.out
       intro x hx
       simp only [List.mem_cons, List.not_mem_nil, or_false] at hx
       rcases hx with rfl | rfl | rfl | rfl | rfl <;> omega)).mono ?_
      rintro e w6 ⟨A6, c6, rfl, hr6, hb6⟩
      have HW6 := Lib.hid (hw3.trans (hb6.mono hw3.size))
      have hR6 := hR.out
      have HF6 : Hid (BRow w6 (w.heap.size + 1) A5 c5 F) := hR6.1.below HW6.out (Nat.le_refl _)
      have HRD : Hid (Reads w6 w6.heap.size 1 A6 (packS [4, 8, 1, 4, 2] [xt, xb, 1, xs, xe]).length (nums .u8 (packS [4, 8, 1, 4, 2] [xt, xb, 1, xs, xe]))) := hr6.reads
      have HL6 : Hid (F.length + (packS [4, 8, 1, 4, 2] [xt, xb, 1, xs, xe]).length <= 100000000) := by
       have e := itB_length ⟨xt, xb, 1, xs, xe⟩
       unfold itB at e
       have e2 := HFK.out
       unfold Hid
       simp only at e
       omega
      have HBS : Hid (w.heap.size + 1 <= w6.heap.size) := by have := HW6.out.size; unfold Hid; omega
      have HIT : Hid (packS [4, 8, 1, 4, 2] [xt, xb, 1, xs, xe] = itB ⟨xt, xb, 1, xs, xe⟩) := rfl
      clear ha hb hw3 hr6 hb6 hR6 i0 i1 i2 i3 i4 t0 t1 s0 s1 e0 e1
      generalize packS [4, 8, 1, 4, 2] [xt, xb, 1, xs, xe] = PK at *
      go_wp2_with (first
        | (at_builtin
           refine wpList_append_u8 w6 rfl (.tmp 69) (.tmp 86) rfl F HF6.out rfl rfl PK rfl HRD.out HL6.out HBS.out ?_
           intro A7 c7 w7 h7 k7 _
           have H7 := Lib.hid h7
           have K7 := Lib.hid k7
           clear h7 k7))
      go_roundw
      case rel =>
       have e : frontR seq its (k + 1) = F ++ PK := by rw [HFS.out, HIT.out]
       have hkk : Kp (fun i => (Value.slice A5 F.length c5).ownBlock = some i) wr w7 := (Kp.of_below (S := fun i => (Value.slice A5 F.length c5).ownBlock = some i) HW6.out).trans K7.out (fun _ _ h => h)
       refine ⟨k + 1, A7, c7, hlt, by go_num, by rw [e]; simp, ?_⟩
       rw [e]
       exact ⟨H7.out, hkk.blk hR.out.2.1 (fun h => by have := (hR.out.1.lt h).1; omega), Kp.below hR.out.2.2 hkk hR.out.2.2.size (fun b hb h => by have := (hR.out.1.lt h).1; omega)⟩
      case measure => simp [intOf]; omega
    · have ha := ((Blk.new (wr.alloc (.cells #[.int .u32 xt, .int .u64 xb, .int .u8 2, .int .u32 0, .int .u16 0] 192)) 3 #[.int .i64 4, .int .i64 8, .int .i64 1, .int .i64 4, .int .i64 2]).alloc (.cells #[.int .u64 xt, .int .u64 xb, .int .u64 2, .int .u64 0, .int .u64 0] 40))
      have hb := Blk.new ((wr.alloc (.cells #[.int .u32 xt, .int .u64 xb, .int .u8 2, .int .u32 0, .int .u16 0] 192)).alloc (.cells #[.int .i64 4, .int .i64 8, .int .i64 1, .int .i64 4, .int .i64 2] 3)) 40 #[.int .u64 xt, .int .u64 xb, .int .u64 2, .int .u64 0, .int .u64 0]
      simp only [World.size_alloc] at ha hb
      have hw3 : Below wr.heap.size wr (((wr.alloc (.cells #[.int .u32 xt, .int .u64 xb, .int .u8 2, .int .u32 0, .int .u16 0] 192)).alloc (.cells #[.int .i64 4, .int .i64 8, .int .i64 1, .int .i64 4, .int .i64 2] 3)).alloc (.cells #[.int .u64 xt, .int .u64 xb, .int .u64 2, .int .u64 0, .int .u64 0] 40)) := (((Below.refl _ wr).alloc (Nat.le_refl _) _).alloc (by simp) _).alloc (by simp; omega) _
      have HP := Lib.hid (And.intro ha (And.intro hb hw3))
      clear ha hb hw3
      go_wp2_with (fail)
      obtain ⟨ha, hb, hw3⟩ := HP.out
      clear HP
      generalize ((wr.alloc (.cells #[.int .u32 xt, .int .u64 xb, .int .u8 2, .int .u32 0, .int .u16 0] 192)).alloc (.cells #[.int .i64 4, .int .i64 8, .int .i64 1, .int .i64 4, .int .i64 2] 3)).alloc (.cells #[.int .u64 xt, .int .u64 xb, .int .u64 2, .int .u64 0, .int .u64 0] 40) = w5 at *
      refine (qpack_any w5 _ _ _ _ 5 5 [4, 8, 1, 4, 2] [xt, xb, 2, 0, 0] (reads_lit ha rfl) (reads_lit hb rfl) (by simp) (by simp) (by
       have hbb := HBB.out
       intro x hx
       simp only [List.mem_cons, List.not_mem_nil, or_false] at hx
       rcases hx with rfl | rfl | rfl | rfl | rfl <;> omega)).mono ?_
      rintro e w6 ⟨A6, c6, rfl, hr6, hb6⟩
      have HW6 := Lib.hid (hw3.trans (hb6.mono hw3.size))
      have hR6 := hR.out
      have HF6 : Hid (BRow w6 (w.heap.size + 1) A5 c5 F) := hR6.1.below HW6.out (Nat.le_refl _)
      have HRD : Hid (Reads w6 w6.heap.size 1 A6 (packS [4, 8, 1, 4, 2] [xt, xb, 2, 0, 0]).length (nums .u8 (packS [4, 8, 1, 4, 2] [xt, xb, 2, 0, 0]))) := hr6.reads
      have HL6 : Hid (F.length + (packS [4, 8, 1, 4, 2] [xt, xb, 2, 0, 0]).length <= 100000000) := by
       have e := itB_length ⟨xt, xb, 2, 0, 0⟩
       unfold itB at e
       have e2 := HFK.out
       unfold Hid
       simp only at e
       omega
      have HBS : Hid (w.heap.size + 1 <= w6.heap.size) := by have := HW6.out.size; unfold Hid; omega
      have HIT : Hid (packS [4, 8, 1, 4, 2] [xt, xb, 2, 0, 0] = itB ⟨xt, xb, 2, 0, 0⟩) := rfl
      clear ha hb hw3 hr6 hb6 hR6 i0 i1 i2 i3 i4 t0 t1 s0 s1 e0 e1
      generalize packS [4, 8, 1, 4, 2] [xt, xb, 2, 0, 0] = PK at *
      go_wp2_with (first
        | (at_builtin
           refine wpList_append_u8 w6 rfl (.tmp 69) (.tmp 86) rfl F HF6.out rfl rfl PK rfl HRD.out HL6.out HBS.out ?_
           intro A7 c7 w7 h7 k7 _
           have H7 := Lib.hid h7
           have K7 := Lib.hid k7
           clear h7 k7))
      go_roundw
      case rel =>
       have e : frontR seq its (k + 1) = F ++ PK := by rw [HFS.out, HIT.out]
       have hkk : Kp (fun i => (Value.slice A5 F.length c5).ownBlock = some i) wr w7 := (Kp.of_below (S := fun i => (Value.slice A5 F.length c5).ownBlock = some i) HW6.out).trans K7.out (fun _ _ h => h)
       refine ⟨k + 1, A7, c7, hlt, by go_num, by rw [e]; simp, ?_⟩
       rw [e]
       exact ⟨H7.out, hkk.blk hR.out.2.1 (fun h => by have := (hR.out.1.lt h).1; omega), Kp.below hR.out.2.2 hkk hR.out.2.2.size (fun b hb h => by have := (hR.out.1.lt h).1; omega)⟩
      case measure => simp [intOf]; omega
  · obtain rfl : k = its.length := by omega
    have hF := HFL.out _ (Nat.le_refl _)
    have HFB := Lib.hid (frontR_bd seq its its.length)
    have HE1 := HE.out
    obtain ⟨F, hF0⟩ : ∃ F, frontR seq its its.length = F := ⟨_, rfl⟩
    rw [hF0] at hR hF HFB HE1 ⊢
    have HE2 := Lib.hid HE1
    have hFb : F.length + 1 <= s.bl := by omega
    have hF18 : 18 <= F.length := by omega
    have HR := Lib.hid (And.intro hR.out.1 (And.intro hR.out.2.2 (show w.heap.size + 1 <= wr.heap.size from hR.out.2.1.lt)))
    clear hF hF0 HE1 HFL HE HI HO hR hfit
    go_wp2_with (fail)
    clear d1
    go_loopw [7] (fun o w5 => ∃ (j : Nat) (A6 : Option Addr) (c6 : Nat), F.length + j + 1 <= s.bl ∧ o = .slice A6 (F ++ List.replicate j (0 : Int)).length c6 ∧ Hid (BRow w5 (w.heap.size + 1) A6 c6 (F ++ List.replicate j 0) ∧ Below w.heap.size w w5 ∧ w.heap.size + 1 <= w5.heap.size)) (fun o _ => match o with | .slice _ n _ => s.bl - n | _ => 0)
    case atStart => exact ⟨0, A5, c5, by omega, by simp, by simpa using HR.out.1, HR.out.2⟩
    case round =>
     obtain ⟨j, A6, c6, hj, rfl, hR6⟩ := hrel
     have hlen : (F ++ List.replicate j (0 : Int)).length = F.length + j := by simp
     by_cases hlt : F.length + j + 1 < s.bl
     · have HOB : Hid ((F ++ List.replicate j (0 : Int)).length <= 1000000) := by unfold Hid; omega
       have HBW : Hid (w.heap.size + 1 <= wr.heap.size) := hR6.out.2.2
       have HAP : Hid ((F ++ List.replicate j (0 : Int)) ++ [0] = F ++ List.replicate (j + 1) 0) := by unfold Hid; rw [List.append_assoc, List.replicate_succ']
       obtain ⟨O, hO⟩ : ∃ O, F ++ List.replicate j (0 : Int) = O := ⟨_, rfl⟩
       rw [hO] at hR6 hlen HOB HAP ⊢
       clear hO
       go_wp2_with (first
         | (at_builtin
            refine wpList_append_byte wr rfl (.tmp 93) (.tmp 94) rfl O _ hR6.out.1 rfl rfl rfl HOB.out HBW.out ?_
            intro A7 c7 w7 h7 k7
            have H7 := Lib.hid h7
            have K7 := Lib.hid k7
            clear h7 k7))
       go_roundw
       case rel =>
        refine ⟨j + 1, A7, c7, by omega, ?_, ?_⟩
        · simp [Nat.add_assoc]
        · rw [<- HAP.out]
          exact ⟨H7.out, Kp.below hR6.out.2.1 K7.out (by have := HBW.out; omega) (fun b hb e => by have := (hR6.out.1.lt e).1; omega), Nat.le_trans HBW.out K7.out.size⟩
       case measure => simp; omega
     · have hje : j = s.bl - 1 - F.length := by omega
       have hjl : (F.length : Int) + j = (s.bl : Int) - 1 := by omega
       have HOB : Hid ((F ++ List.replicate j (0 : Int)).length <= 1000000) := by unfold Hid; omega
       have HBW : Hid (w.heap.size + 1 <= wr.heap.size) := hR6.out.2.2
       have HAP : Hid ((F ++ List.replicate j (0 : Int)) ++ [231] = fillB F s.bl) := by unfold Hid; rw [fillB_by F s.bl hFb, hje]
       have hbB : ∀ x ∈ fillB F s.bl, ByteOk x := fillB_bd F s.bl HFB.out
       have hBl : (fillB F s.bl).length = s.bl := fillB_length F s.bl (by omega)
       have HBB := Lib.hid hbB
       have HBL := Lib.hid hBl
       have HD : Hid (doneB F s.bl = sumB (fillB F s.bl) (sumS 0 (fillB F s.bl))) := rfl
       have hSb : U32 (sumS 0 (fillB F s.bl)) := sumS_bd _ _ ⟨by omega, by omega⟩ hbB
       have HSB := Lib.hid hSb
       have hS0 : 0 <= sumS 0 (fillB F s.bl) := hSb.1
       have hS1 : sumS 0 (fillB F s.bl) <= 4294967295 := hSb.2
       obtain ⟨O, hO⟩ : ∃ O, F ++ List.replicate j (0 : Int) = O := ⟨_, rfl⟩
       rw [hO] at hR6 hlen HOB HAP ⊢
       clear hO hbB hBl hSb hje
       generalize fillB F s.bl = Z at *
       obtain ⟨S, hS⟩ : ∃ S, sumS 0 Z = S := ⟨_, rfl⟩
       rw [hS] at HD HSB hS0 hS1
       have HS := Lib.hid hS
       clear hS
       go_wp2_with (first
         | (at_builtin
            refine wpList_append_byte wr rfl (.tmp 96) (.tmp 97) rfl O _ hR6.out.1 rfl rfl rfl HOB.out HBW.out ?_
            intro A7 c7 w7 h7 k7
            have H7 := Lib.hid h7
            have K7 := Lib.hid k7
            clear h7 k7))
       have e7 : F.length + j + 1 = s.bl := by omega
       have hz7 : BRow w7 (w.heap.size + 1) A7 c7 Z := by rw [<- HAP.out]; exact H7.out
       have hb7 : Below w.heap.size w w7 := Kp.below hR6.out.2.1 K7.out (by have := HBW.out; omega) (fun b hb e => by have := (hR6.out.1.lt e).1; omega)
       obtain ⟨g7, rfl, _⟩ := hz7.at_ (k := 0) (by rw [HBL.out]; omega)
       have hg7 : g7 < w7.heap.size ∧ w.heap.size + 1 <= g7 := by have := hz7.lt (b := g7) rfl; omega
       have HSUM := qsum_any (w7.alloc (.cells #[.int .i64 4] 3)) _ _ c7 Z (hz7.alloc _).reads HBB.out (by rw [HBL.out]; omega)
       rw [HBL.out, HS.out] at HSUM
       have HZ7 := Lib.hid (And.intro hz7 (And.intro hb7 hg7))
       rw [e7]
       clear hz7 hb7 hg7 H7 K7 hR6 HAP e7 hlen hjl hj hlt
       refine HSUM.mono ?_
       rintro e w' ⟨rfl, rfl⟩
       have HPK := Lib.hid (qlits w7 S HSB.out)
       clear HSUM
       go_wp2_with (fail)
       refine HPK.out.mono ?_
       rintro e w9 ⟨A9, c9, rfl, hr9, hb9⟩
       have HR9 : Hid (BRow w9 w7.heap.size A9 c9 (beB 4 S) ∧ BRow w9 (w.heap.size + 1) (some ⟨g7, 0, none⟩) c7 (Z.take 4 ++ ((beB 4 S).take 0 ++ Z.drop (4 + 0))) ∧ Below w.heap.size w w9) := ⟨hr9, by simpa using HZ7.out.1.below hb9 (Nat.le_refl _), HZ7.out.2.1.trans (hb9.mono HZ7.out.2.1.size)⟩
       have HG7 := Lib.hid HZ7.out.2.2
       clear hr9 hb9 HZ7 HPK
       go_wp2_with (fail)
       go_loopw [11] (fun i w5 => ∃ k : Nat, k <= 4 ∧ i = .int .i64 k ∧ Hid (BRow w5 w7.heap.size A9 c9 (beB 4 S) ∧ BRow w5 (w.heap.size + 1) (some ⟨g7, 0, none⟩) c7 (Z.take 4 ++ ((beB 4 S).take k ++ Z.drop (4 + k))) ∧ Below w.heap.size w w5)) (fun i _ => 4 - (intOf i).toNat)
       case atStart => exact ⟨0, by omega, rfl, HR9⟩
       case round =>
        obtain ⟨k, hk, rfl, hr⟩ := hrel
        clear HR9
        have hZL : (Z.take 4 ++ ((beB 4 S).take k ++ Z.drop (4 + k))).length = s.bl := by
         have := HBL.out
         have := beB_length 4 S
         simp
         omega
        by_cases hlt : k < 4
        · obtain ⟨g9, rfl, hc9⟩ := hr.out.1.at_ (k := k) (by rw [beB_length]; exact hlt)
          obtain ⟨g7', e7, hc7⟩ := hr.out.2.1.at_ (k := 4 + k) (by rw [hZL]; omega)
          injection e7 with e7
          injection e7 with e7
          subst e7
          have hf7 := hr.out.2.1.frozen (4 + k)
          obtain ⟨q, hq⟩ : ∃ q : Nat, 4 + k = q := ⟨_, rfl⟩
          have hk4 : (q : Int) < s.bl := by omega
          have hk5 : (4 : Int) + k = (q : Int) := by omega
          have HST := Lib.hid (hr.out.2.1.set_last (k := 4 + k) (by rw [hZL]; omega) ((beB 4 S).getD k 0))
          have HTK := Lib.hid (sumB_take Z S (by rw [HBL.out]; omega) k hlt)
          have h9 : g9 ≠ g7 := by have := (hr.out.1.lt (b := g9) rfl).1; have := HG7.out.1; omega
          have H9 : Hid (BRow (wr.setCell ⟨g7, 4 + k, none⟩ (.int .u8 ((beB 4 S).getD k 0))) w7.heap.size (some ⟨g9, 0, none⟩) c9 (beB 4 S)) := hr.out.1.of_block (fun b hb => Below.heap_setCell wr _ _ b (by
           have e : g9 = b := by simpa [Value.ownBlock] using hb
           subst e
           exact h9))
          have HBS : Hid (Below w.heap.size w (wr.setCell ⟨g7, 4 + k, none⟩ (.int .u8 ((beB 4 S).getD k 0)))) := hr.out.2.2.setCell (by have := HG7.out.2; show w.heap.size <= g7; omega) _
          have h9l : (beB 4 S).length = 4 := beB_length 4 S
          rw [hq] at hc7 hf7 HST H9 HBS HTK
          obtain ⟨v9, hv9⟩ : ∃ v9, (beB 4 S).getD k 0 = v9 := ⟨_, rfl⟩
          rw [hv9] at hc9 HST H9 HBS HTK
          clear hr h9 hq hv9
          generalize (Z.take 4 ++ ((beB 4 S).take k ++ Z.drop q)).getD q 0 = y at hc7
          go_wp2
          go_roundw
          case rel => exact ⟨k + 1, hlt, by go_num, H9.out, by rw [<- HTK.out]; exact HST.out, HBS.out⟩
          case measure => simp [intOf]; omega
        · obtain rfl : k = 4 := by omega
          have hfin : Z.take 4 ++ ((beB 4 S).take 4 ++ Z.drop (4 + 4)) = sumB Z S := by
           unfold sumB
           rw [List.take_of_length_le (l := beB 4 S) (by rw [beB_length]; exact Nat.le_refl _)]
          have HF2 := Lib.hid hfin
          clear hfin hZL
          go_wp2
          go_ret2
          rw [HE2.out, HD.out, <- HF2.out]
          exact ⟨some ⟨g7, 0, none⟩, c7, rfl, hr.out.2.1.rebase (fun b hb => by have := (hr.out.2.1.lt hb).1; omega), hr.out.2.2⟩
end Go.Proofs.YtfabgbmbnmbjkaaGreatDoor

