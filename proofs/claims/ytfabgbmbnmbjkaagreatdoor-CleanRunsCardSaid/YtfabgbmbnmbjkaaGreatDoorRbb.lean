/- Joined texts: Ql Qm. -/
import Derived.Test.YtfabgbmbnmbjkaaGreatDoorRaz
import Derived.Test.YtfabgbmbnmbjkaaGreatDoorRaq
import Derived.Deep.DeepCutAuto
/- Pruned. -/
namespace Go.Proofs.YtfabgbmbnmbjkaaGreatDoor
open Go.RowKit
set_option maxRecDepth 20000
def QCEnc (s : Sh) (seq : Int) (L : List Pl) (w : World) (e : Ending) (w' : World) : Prop :=
 (manyC L.length (roomC s.bl) <= s.zb ∧ ∃ A c, e = .returned (.tuple #[.slice A (manyC L.length (roomC s.bl)) c, .int .i64 0]) ∧ BlocksY (fun b => w.heap.size <= b) w' A (encC s.bl seq L) ∧ Below w.heap.size w w') ∨
 (s.zb < manyC L.length (roomC s.bl) ∧ e = .returned (.tuple #[.slice none 0 0, .int .i64 140]) ∧ Below w.heap.size w w')
structure QEn (w W : World) (s : Sh) (seq : Int) (A : Option Addr) (c : Nat) (L : List Pl) : Prop where
  sh : Blk W w.heap.size 23 #[.int .i64 s.z, .int .i64 s.zb, .int .i64 s.bl, .int .i64 s.rs]
  st : Blk W (w.heap.size + 1) 82 #[.int .u64 seq, .slice A L.length c]
  row : RowAt W A L
  low : Below w.heap.size w W
theorem QEn.below {w W W' : World} {s : Sh} {seq : Int} {A : Option Addr} {c : Nat} {L : List Pl} (h : QEn w W s seq A c L) (hb : Below W.heap.size W W') : QEn w W' s seq A c L :=
 ⟨h.sh.below hb h.sh.lt, h.st.below hb h.st.lt, h.row.below hb, h.low.trans (hb.mono h.low.size)⟩
theorem QEn.kp {S : Nat -> Prop} {w W W' : World} {s : Sh} {seq : Int} {A : Option Addr} {c : Nat} {L : List Pl} (h : QEn w W s seq A c L) (hk : Kp S W W') (hs : ∀ b, S b -> w.heap.size + 2 <= b) (hr : ∀ r, A = some ⟨r, 0, none⟩ -> r < w.heap.size) : QEn w W' s seq A c L :=
 ⟨hk.blk h.sh (fun e => by have := hs _ e; omega), hk.blk h.st (fun e => by have := hs _ e; omega), fun h0 => by
  obtain ⟨r, e, p⟩ := h.row h0
  have hlt := hr r e
  refine ⟨r, e, ⟨fun i hi => hk.cell (p.c0 i hi) (fun e => ?_), fun i hi => hk.cell (p.c1 i hi) (fun e => ?_), fun i hi => hk.cell (p.c2 i hi) (fun e => ?_), fun i hi => hk.cell (p.c3 i hi) (fun e => ?_)⟩⟩ <;>
  · have h1 : w.heap.size + 2 <= r := hs _ e
    omega, Kp.below h.low hk h.low.size (fun b hb e => by have := hs _ e; omega)⟩
theorem QEn.s1 {w W : World} {s : Sh} {seq : Int} {A : Option Addr} {c : Nat} {L : List Pl} (h : QEn w W s seq A c L) : W.cell? ⟨w.heap.size, 1, none⟩ = some (.int .i64 s.zb) := h.sh.cell 1
theorem QEn.s0 {w W : World} {s : Sh} {seq : Int} {A : Option Addr} {c : Nat} {L : List Pl} (h : QEn w W s seq A c L) : W.cell? ⟨w.heap.size, 0, none⟩ = some (.int .i64 s.z) := h.sh.cell 0
theorem QEn.s2 {w W : World} {s : Sh} {seq : Int} {A : Option Addr} {c : Nat} {L : List Pl} (h : QEn w W s seq A c L) : W.cell? ⟨w.heap.size, 2, none⟩ = some (.int .i64 s.bl) := h.sh.cell 2
theorem QEn.t0 {w W : World} {s : Sh} {seq : Int} {A : Option Addr} {c : Nat} {L : List Pl} (h : QEn w W s seq A c L) : W.cell? ⟨w.heap.size + 1, 0, none⟩ = some (.int .u64 seq) := h.st.cell 0
theorem QEn.t1 {w W : World} {s : Sh} {seq : Int} {A : Option Addr} {c : Nat} {L : List Pl} (h : QEn w W s seq A c L) : W.cell? ⟨w.heap.size + 1, 1, none⟩ = some (.slice A L.length c) := h.st.cell 1
set_option maxHeartbeats 4000000 in
theorem qcenc_any (s : Sh) (hs : s.ok) (seq : Int) (hq : 0 <= seq ∧ seq <= 18446744073709551615) (L : List Pl) (A : Option Addr) (c : Nat) (w : World) (h : RowAt w A L) (hlt : ∀ r, A = some ⟨r, 0, none⟩ -> r < w.heap.size) (hok : PlacesOk s L) (hl : L.length <= 100000) :
    Calls Tryz.prog 92 #[shV s, .agg #[.int .u64 seq, .slice A L.length c]] w (QCEnc s seq L w) := by
 have hbl := hs.blk
 have hfc := hs.facts
 have HRT := Lib.hid (fun w => refright_any s.z s.zb s.bl s.rs w (by omega))
 rw [hs.is] at HRT
 have HRS := Lib.hid (fun u hu => qrises_any u s L A c (by omega) hu hok)
 have HRM := Lib.hid (qroomc_any s hs)
 have HLT := Lib.hid hlt
 have HROW := Lib.hid h
 have HOK := Lib.hid hok
 have hz3 : s.z <= 256 := by omega
 have hzb3 : s.zb <= 4096 := by omega
 have hzb1 : 8 <= s.zb := by omega
 have hR1 : 1 <= roomC s.bl := by unfold roomC; omega
 have hR2 : roomC s.bl <= 4096 := by unfold roomC; omega
 unfold shV
 clear h hok hs hlt hfc
 go_enter Tryz.func92, Tryz.ntmps92
 go_wp2_with (fail)
 refine (HRT.out _).mono ?_
 rintro e w1 ⟨rfl, hb1⟩
 have k0 := (Blk.new w 23 #[.int .i64 s.z, .int .i64 s.zb, .int .i64 s.bl, .int .i64 s.rs]).alloc (.cells #[.int .u64 seq, .slice A L.length c] 82)
 have k1 := Blk.new (w.alloc (.cells #[.int .i64 s.z, .int .i64 s.zb, .int .i64 s.bl, .int .i64 s.rs] 23)) 82 #[.int .u64 seq, .slice A L.length c]
 rw [World.size_alloc] at k1
 have hb0 : Below w.heap.size w ((w.alloc (.cells #[.int .i64 s.z, .int .i64 s.zb, .int .i64 s.bl, .int .i64 s.rs] 23)).alloc (.cells #[.int .u64 seq, .slice A L.length c] 82)) := ((Below.refl _ w).alloc (Nat.le_refl _) _).alloc (by simp) _
 have hE : QEn w w1 s seq A c L := QEn.below ⟨k0, k1, HROW.out.below hb0, hb0⟩ hb1
 have HE1 := Lib.hid hE
 have c1 := hE.t1
 clear k0 k1 hb0 hb1 hE HRT
 go_wp2_with (fail)
 refine (HRS.out _ HE1.out.row).mono ?_
 rintro e w2 ⟨rfl, hb2⟩
 have HE2 := Lib.hid (HE1.out.below hb2)
 clear hb2 HE1 c1 HRS
 go_wp2_with (fail)
 go_loopw [7] (fun i wr => ∃ k : Nat, k <= L.length ∧ i = .int .i64 k ∧ Hid (QEn w wr s seq A c L)) (fun i _ => L.length - (intOf i).toNat)
 case atStart => exact ⟨0, Nat.zero_le _, rfl, HE2⟩
 case round =>
  obtain ⟨k, hk, rfl, hE⟩ := hrel
  clear HE2
  have d1 := hE.out.t1
  have s0 := hE.out.s0
  have s1 := hE.out.s1
  have s2 := hE.out.s2
  have hwl : w.heap.size + 1 < wr.heap.size := hE.out.st.lt
  by_cases hlt : k < L.length
  · obtain ⟨r, rfl, p⟩ := hE.out.row (by omega)
    have a0 := p.c0 k hlt
    have a1 := p.c1 k hlt
    have a2 := p.c2 k hlt
    have a3 := p.c3 k hlt
    have hx := HOK.out.get hlt
    obtain ⟨_, hx1, hx2, hx3, hx4⟩ := hx
    have hal : Below wr.heap.size wr (wr.alloc (.cells #[.int .i64 (L.getD k p0).z, .int .i64 (L.getD k p0).k] 53)) := (Below.refl _ wr).alloc (Nat.le_refl _) _
    have s0' := below_keep hal s0
    have s1' := below_keep hal s1
    have HE3 := Lib.hid (hE.out.below hal)
    clear p hal hE
    generalize L.getD k p0 = x at *
    obtain ⟨xt, xb, xz, xk⟩ := x
    simp only at a0 a1 a2 a3 hx1 hx2 hx3 hx4 s0' s1' HE3
    have h1 : ¬ xz < 2 := by omega
    have h2 : ¬ (s.z : Int) <= xz := by omega
    have h3 : ¬ xk < 0 := by omega
    have h4 : ¬ (s.zb : Int) <= xk := by omega
    clear hx1 hx2 hx3 hx4
    go_wp2
    go_roundw
    case rel => exact ⟨k + 1, hlt, by go_num, HE3⟩
    case measure => simp [intOf]; omega
  · obtain rfl : k = L.length := by omega
    clear hlt hk
    go_wp2_with (fail)
    refine (HRM.out _).mono ?_
    rintro e w3 ⟨rfl, rfl⟩
    clear HRM
    have hm0 : (L.length + roomC s.bl - 1) / roomC s.bl <= 100000 := by
     have := Nat.div_le_self (L.length + roomC s.bl - 1) (roomC s.bl)
     have h2 := Nat.div_le_div_right (c := roomC s.bl) (show L.length + roomC s.bl - 1 <= 100000 * roomC s.bl by
      have := Nat.mul_le_mul_left 100000 hR1
      rcases Nat.eq_or_lt_of_le hR1 with e | e
      · omega
      · have := Nat.mul_le_mul_left 99999 (show 2 <= roomC s.bl from e)
        omega)
     rw [Nat.mul_div_cancel _ (by omega)] at h2
     exact h2
    have HMC : Hid (manyC L.length (roomC s.bl) = max ((L.length + roomC s.bl - 1) / roomC s.bl) 1) := rfl
    have hdiv : ((L.length : Int) + (roomC s.bl : Nat) - 1) / ((roomC s.bl : Nat) : Int) = (((L.length + roomC s.bl - 1) / roomC s.bl : Nat) : Int) := by
     rw [Int.natCast_ediv]
     congr 1
     omega
    have HTK := Lib.hid (fun i => encC_take s.bl seq L i)
    have HNL := Lib.hid (encC_length s.bl seq L)
    have HUN : Hid (∀ e w', ((manyC L.length (roomC s.bl) <= s.zb ∧ ∃ A c, e = .returned (.tuple #[.slice A (manyC L.length (roomC s.bl)) c, .int .i64 0]) ∧ BlocksY (fun b => w.heap.size <= b) w' A (encC s.bl seq L) ∧ Below w.heap.size w w') ∨ (s.zb < manyC L.length (roomC s.bl) ∧ e = .returned (.tuple #[.slice none 0 0, .int .i64 140]) ∧ Below w.heap.size w w')) -> QCEnc s seq L w e w') := fun _ _ h => h
    have HFB := Lib.hid (fun (C : List Pl) (hC : C.length <= roomC s.bl) => roomC_fit (bl := s.bl) hC hbl.1)
    generalize hM0 : (L.length + roomC s.bl - 1) / roomC s.bl = m0 at *
    generalize roomC s.bl = R at *
    obtain ⟨m, hm⟩ : ∃ m, manyC L.length R = m := ⟨_, rfl⟩
    have hmx : (m0 = 0 ∧ m = 1) ∨ (1 <= m0 ∧ m = m0) := by have := HMC.out; omega
    have HML := Lib.hid (fun i (hi : i < m) => many_le (n := L.length) (room := R) (i := i) hR1 (by rw [hm]; exact hi))
    rw [hm] at HTK HNL HUN
    have hm1 : 1 <= m := by omega
    have hm5 : m <= 100000 := by omega
    clear hM0 hm HMC
    generalize encC s.bl seq L = E at *
    go_upto_if 77 with (fail)
    go_cut [10] (fun s10 wx => s10 = .int .i64 m ∧ wr = wx)
    case first =>
     rcases hmx with ⟨rfl, rfl⟩ | ⟨hm01, rfl⟩
     · go_wp2_with (fail)
       go_meet
       exact ⟨rfl, rfl⟩
     · have hnz : ((m : Int) == 0) = false := by rw [beq_eq_false_iff_ne]; omega
       go_wp2_with (fail)
       go_meet
       exact ⟨by rw [hdiv], rfl⟩
    case rest =>
     obtain ⟨rfl, rfl⟩ := hcut
     by_cases hbig : s.zb < m
     · have hbg : (s.zb : Int) < m := by omega
       have HBG := Lib.hid hbig
       clear hmx hbig
       go_wp2
       go_ret2
       exact HUN.out _ _ (.inr ⟨HBG.out, rfl, hE.out.low⟩)
     · have HE4 : Hid (BsO wr (w.heap.size + 2) none 0 (E.take 0) ∧ QEn w wr s seq A c L ∧ w.heap.size + 2 <= wr.heap.size) := ⟨BsO.nil _ _, hE.out, by omega⟩
       have HBG := Lib.hid hbig
       have hbg : ¬ (s.zb : Int) < m := by omega
       clear hmx hbig
       go_wp2_with (fail)
       go_loopw [11, 12] (fun o i wr => ∃ (k : Nat) (A1 : Option Addr) (c1 : Nat), k <= m ∧ i = .int .i64 k ∧ o = .slice A1 k c1 ∧ Hid (BsO wr (w.heap.size + 2) A1 c1 (E.take k) ∧ QEn w wr s seq A c L ∧ w.heap.size + 2 <= wr.heap.size)) (fun _ i _ => m - (intOf i).toNat)
       case atStart => exact ⟨0, none, 0, Nat.zero_le _, rfl, rfl, HE4⟩
       case round =>
        obtain ⟨k, A1, c1, hk, rfl, rfl, hO⟩ := hrel
        clear HE4 hE d1 s0 s1 s2 hwl hdiv
        obtain ⟨w1, rfl⟩ : ∃ w1, w1 = wr := ⟨_, rfl⟩
        by_cases hlt : k < m
        · have d1 := hO.out.2.1.t1
          have d0 := hO.out.2.1.t0
          have s2 := hO.out.2.1.s2
          have hwl : w.heap.size + 1 < w1.heap.size := hO.out.2.1.st.lt
          have hkI : (k : Int) < m := by omega
          have hml := HML.out k hlt
          have hC := partC_length R L k
          have HTKK := Lib.hid (HTK.out k hlt)
          have HFC := Lib.hid (HFB.out (partC R L k) (by rw [hC]; omega))
          have HPC := Lib.hid (fun j (hj : j < (partC R L k).length) => partC_get R L k j hj)
          obtain ⟨fr, hfr⟩ : ∃ fr, k * R = fr := ⟨_, rfl⟩
          rw [hfr] at hml hC HPC
          have hmul : (k : Int) * (R : Int) = (fr : Int) := by rw [<- hfr]; simp
          obtain ⟨tq, htq⟩ : ∃ tq, min (fr + R) L.length = tq := ⟨_, rfl⟩
          obtain ⟨n, hn⟩ : ∃ n, (partC R L k).length = n := ⟨_, rfl⟩
          have hcase : (¬ (L.length : Int) < fr + R ∧ (fr : Int) + R = tq) ∨ ((L.length : Int) < fr + R ∧ (L.length : Int) = tq) := by omega
          have hsub : (tq : Int) - fr = n := by omega
          have htl : tq <= L.length := by omega
          have hn2 : n <= 4096 := by omega
          have htn : fr + n = tq := by omega
          have hfr9 : fr <= 100000 := by omega
          have HN := Lib.hid hn
          have HKM := Lib.hid hlt
          have HTL := Lib.hid htl
          have HTN := Lib.hid htn
          clear hfr htq hn hC htl hml htn hlt
          generalize partC R L k = C at *
          go_upto_region 21 with (fail)
          go_cut [14] (fun s14 wx => s14 = .int .i64 tq ∧ w1 = wx)
          case first =>
           rcases hcase with ⟨hmn, htq⟩ | ⟨hmn, htq⟩
           · have HTO := Lib.hid htq
             clear htq
             go_wp2_with (fail)
             go_meet
             exact ⟨by rw [HTO.out], rfl⟩
           · have HTO := Lib.hid htq
             clear htq
             go_wp2_with (fail)
             go_meet
             exact ⟨by rw [HTO.out], rfl⟩
          case rest =>
           obtain ⟨rfl, rfl⟩ := hcut
           clear hcase
           have hbI : Blk ((w1.alloc (.cells #[.int .i64 4, .int .i64 4, .int .i64 4, .int .i64 4, .int .i64 8, .int .i64 2] 3)).alloc (.cells #[.int .u64 1129009236, .int .u64 0, .int .u64 k, .int .u64 m, .int .u64 seq, .int .u64 n] 40)) w1.heap.size 3 #[.int .i64 4, .int .i64 4, .int .i64 4, .int .i64 4, .int .i64 8, .int .i64 2] := (Blk.new w1 _ _).alloc _
           have hbU := Blk.new (w1.alloc (.cells #[.int .i64 4, .int .i64 4, .int .i64 4, .int .i64 4, .int .i64 8, .int .i64 2] 3)) 40 #[.int .u64 1129009236, .int .u64 0, .int .u64 k, .int .u64 m, .int .u64 seq, .int .u64 n]
           rw [World.size_alloc] at hbU
           have hbL : Below w1.heap.size w1 ((w1.alloc (.cells #[.int .i64 4, .int .i64 4, .int .i64 4, .int .i64 4, .int .i64 8, .int .i64 2] 3)).alloc (.cells #[.int .u64 1129009236, .int .u64 0, .int .u64 k, .int .u64 m, .int .u64 seq, .int .u64 n] 40)) := ((Below.refl _ w1).alloc (Nat.le_refl _) _).alloc (by simp) _
           have HB3 := Lib.hid (And.intro hbI (And.intro hbU hbL))
           clear hbI hbU hbL
           go_wp2_with (fail)
           obtain ⟨hbI, hbU, hbL⟩ := HB3.out
           clear HB3
           generalize (w1.alloc (.cells #[.int .i64 4, .int .i64 4, .int .i64 4, .int .i64 4, .int .i64 8, .int .i64 2] 3)).alloc (.cells #[.int .u64 1129009236, .int .u64 0, .int .u64 k, .int .u64 m, .int .u64 seq, .int .u64 n] 40) = w3 at *
           refine (qpack_any w3 _ _ _ _ 6 6 [4, 4, 4, 4, 8, 2] [1129009236, 0, k, m, seq, n] (reads_lit hbI rfl) (reads_lit hbU rfl) (by simp) (by simp) (by
            intro x hx
            simp only [List.mem_cons, List.not_mem_nil, or_false] at hx
            rcases hx with rfl | rfl | rfl | rfl | rfl | rfl <;> omega)).mono ?_
           rintro e w4 ⟨A4, c4, rfl, hr4, hb4⟩
           have e0 : packS [4, 4, 4, 4, 8, 2] [1129009236, 0, k, m, seq, n] = frontC k m seq C 0 := by
            simp [frontC, headC, HN.out]
           rw [e0] at hr4 ⊢
           have HR4 : Hid (BRow w4 w1.heap.size A4 c4 (frontC k m seq C 0) ∧ Below w1.heap.size w1 w4) := ⟨hr4.rebase (fun b hb => Nat.le_trans hbL.size (hr4.lt hb).1), hbL.trans (hb4.mono hbL.size)⟩
           have HFL := Lib.hid (fun j (h : j <= n) => frontC_length k m seq C j (by rw [HN.out]; exact h))
           clear hr4 hb4 hbI hbU hbL e0 d1 d0 s2
           go_wp2_with (fail)
           go_loopw [15, 16] (fun o i wr => ∃ (j : Nat) (A5 : Option Addr) (c5 : Nat), j <= n ∧ i = .int .i64 (fr + j : Nat) ∧ o = .slice A5 (frontC k m seq C j).length c5 ∧ Hid (BRow wr w1.heap.size A5 c5 (frontC k m seq C j) ∧ Below w1.heap.size w1 wr)) (fun _ i _ => fr + n - (intOf i).toNat)
           case atStart => exact ⟨0, A4, c4, Nat.zero_le _, rfl, rfl, HR4⟩
           case round =>
            obtain ⟨j, A5, c5, hj, rfl, rfl, hR⟩ := hrel
            clear HR4
            have hq := hO.out.2.1.below hR.out.2
            have d1 := hq.t1
            have d0 := hq.t0
            have s2 := hq.s2
            have hwl : w.heap.size + 1 < wr.heap.size := hq.st.lt
            by_cases hlt : j < n
            · have hji : fr + j < L.length := by have := HTL.out; have := HTN.out; omega
              obtain ⟨r, rfl, p⟩ := hq.row (by omega)
              have a0 := p.c0 (fr + j) hji
              have a1 := p.c1 (fr + j) hji
              have a2 := p.c2 (fr + j) hji
              have a3 := p.c3 (fr + j) hji
              have hx := HOK.out.get hji
              have hfs := frontC_succ k m seq C j (by rw [HN.out]; exact hlt)
              rw [HPC.out j (by rw [HN.out]; exact hlt)] at hfs
              have HFS := Lib.hid hfs
              have HFK := Lib.hid (HFL.out j hj)
              have HJ := Lib.hid hlt
              clear p hfs hq
              generalize L.getD (fr + j) p0 = x at *
              obtain ⟨xt, xb, xz, xk⟩ := x
              obtain ⟨⟨⟨hx1, hx2⟩, hx3, hx4⟩, hx5, hx6, hx7, hx8⟩ := hx
              simp only [Pl.n] at a0 a1 a2 a3 hx1 hx2 hx3 hx4 hx5 hx6 hx7 hx8 HFS
              obtain ⟨q, hq⟩ : ∃ q, fr + j = q := ⟨_, rfl⟩
              rw [hq] at a0 a1 a2 a3 ⊢
              have hqb : q <= 100000 := by omega
              have hqt : (q : Int) < tq := by have := HTN.out; omega
              have hql : (q : Int) < L.length := by omega
              have HQ := Lib.hid hq
              have HB := Lib.hid (And.intro hx3 hx4)
              generalize frontC k m seq C j = F at *
              clear hq hji hlt hj hx3 hx4
              have hz0 : 0 <= xz := by omega
              have hz1 : xz <= 256 := by omega
              have hk1 : xk <= 4096 := by omega
              have ha := ((Blk.new (wr.alloc (.cells #[.int .u32 xt, .int .u64 xb, .int .i64 xz, .int .i64 xk] 55)) 3 #[.int .i64 4, .int .i64 8, .int .i64 2, .int .i64 2]).alloc (.cells #[.int .u64 xt, .int .u64 xb, .int .u64 xz, .int .u64 xk] 40))
              have hb := Blk.new ((wr.alloc (.cells #[.int .u32 xt, .int .u64 xb, .int .i64 xz, .int .i64 xk] 55)).alloc (.cells #[.int .i64 4, .int .i64 8, .int .i64 2, .int .i64 2] 3)) 40 #[.int .u64 xt, .int .u64 xb, .int .u64 xz, .int .u64 xk]
              simp only [World.size_alloc] at ha hb
              have hw3 : Below wr.heap.size wr (((wr.alloc (.cells #[.int .u32 xt, .int .u64 xb, .int .i64 xz, .int .i64 xk] 55)).alloc (.cells #[.int .i64 4, .int .i64 8, .int .i64 2, .int .i64 2] 3)).alloc (.cells #[.int .u64 xt, .int .u64 xb, .int .u64 xz, .int .u64 xk] 40)) := (((Below.refl _ wr).alloc (Nat.le_refl _) _).alloc (by simp) _).alloc (by simp; omega) _
              have HP := Lib.hid (And.intro ha (And.intro hb hw3))
              clear ha hb hw3
              go_wp2_with (fail)
              obtain ⟨ha, hb, hw3⟩ := HP.out
              clear HP
              generalize ((wr.alloc (.cells #[.int .u32 xt, .int .u64 xb, .int .i64 xz, .int .i64 xk] 55)).alloc (.cells #[.int .i64 4, .int .i64 8, .int .i64 2, .int .i64 2] 3)).alloc (.cells #[.int .u64 xt, .int .u64 xb, .int .u64 xz, .int .u64 xk] 40) = w5 at *
              refine (qpack_any w5 _ _ _ _ 4 4 [4, 8, 2, 2] [xt, xb, xz, xk] (reads_lit ha rfl) (reads_lit hb rfl) (by simp) (by simp) (by
               have hbb := HB.out
               intro x hx
               simp only [List.mem_cons, List.not_mem_nil, or_false] at hx
               rcases hx with rfl | rfl | rfl | rfl <;> omega)).mono ?_
              rintro e w6 ⟨A6, c6, rfl, hr6, hb6⟩
              have HW6 := Lib.hid (hw3.trans (hb6.mono hw3.size))
              have HF6 : Hid (BRow w6 w1.heap.size A5 c5 F) := hR.out.1.below HW6.out (Nat.le_refl _)
              have HRD : Hid (Reads w6 w6.heap.size 1 A6 (packS [4, 8, 2, 2] [xt, xb, xz, xk]).length (nums .u8 (packS [4, 8, 2, 2] [xt, xb, xz, xk]))) := hr6.reads
              have hpl := plB_length ⟨xt, xb, xz, xk⟩
              unfold plB at hpl
              simp only at hpl
              have HL6 : Hid (F.length + (packS [4, 8, 2, 2] [xt, xb, xz, xk]).length <= 100000000) := by
               have e2 := HFK.out
               have e3 := HJ.out
               unfold Hid
               omega
              have HBS : Hid (w1.heap.size <= w6.heap.size) := by have := HW6.out.size; have := hR.out.2.size; unfold Hid; omega
              have HIT : Hid (packS [4, 8, 2, 2] [xt, xb, xz, xk] = plB ⟨xt, xb, xz, xk⟩) := rfl
              clear ha hb hw3 hr6 hb6 a0 a1 a2 a3 hpl hx1 hx2 hx5 hx6 hx7 hx8 hz0 hz1 hk1
              generalize packS [4, 8, 2, 2] [xt, xb, xz, xk] = PK at *
              go_wp2_with (first
                | (at_builtin
                   refine wpList_append_u8 w6 rfl (.tmp 121) (.tmp 137) rfl F HF6.out rfl rfl PK rfl HRD.out HL6.out HBS.out ?_
                   intro A7 c7 w7 h7 k7 _
                   have H7 := Lib.hid h7
                   have K7 := Lib.hid k7
                   clear h7 k7))
              go_roundw
              case rel =>
               have e : frontC k m seq C (j + 1) = F ++ PK := by rw [HFS.out, HIT.out]
               have hkk : Kp (fun i => (Value.slice A5 F.length c5).ownBlock = some i) wr w7 := (Kp.of_below (S := fun i => (Value.slice A5 F.length c5).ownBlock = some i) HW6.out).trans K7.out (fun _ _ h => h)
               refine ⟨j + 1, A7, c7, HJ.out, by rw [<- HQ.out, <- Nat.add_assoc]; go_num, by rw [e]; simp, ?_⟩
               rw [e]
               exact ⟨H7.out, Kp.below hR.out.2 hkk hR.out.2.size (fun b hb h => by have := (hR.out.1.lt h).1; omega)⟩
              case measure => have := HJ.out; have := HQ.out; simp [intOf]; omega
            · obtain rfl : j = n := by omega
              have hF := HFL.out _ (Nat.le_refl _)
              have HFBD := Lib.hid (frontC_bd k m seq C j)
              have HE1 : Hid (blockC s.bl k m seq C = doneB (frontC k m seq C j) s.bl) := by unfold Hid blockC; rw [HN.out]
              generalize frontC k m seq C j = F at *
              have hFb : F.length + 1 <= s.bl := by have := HFC.out; have := HN.out; omega
              have hF18 : 26 <= F.length := by omega
              have hji : ¬ ((fr + j : Nat) : Int) < tq := by have := HTN.out; omega
              have HR := Lib.hid hR.out
              clear hF HFL hR hj d1 d0 s2 hwl
              go_wp2_with (fail)
              go_loopw [15] (fun o w5 => ∃ (i : Nat) (A6 : Option Addr) (c6 : Nat), F.length + i + 1 <= s.bl ∧ o = .slice A6 (F ++ List.replicate i (0 : Int)).length c6 ∧ Hid (BRow w5 w1.heap.size A6 c6 (F ++ List.replicate i 0) ∧ Below w1.heap.size w1 w5)) (fun o _ => match o with | .slice _ n _ => s.bl - n | _ => 0)
              case atStart => exact ⟨0, A5, c5, by omega, by simp, by simpa using HR.out.1, HR.out.2⟩
              case round =>
               obtain ⟨i, A6, c6, hi, rfl, hR6⟩ := hrel
               have hlen : (F ++ List.replicate i (0 : Int)).length = F.length + i := by simp
               have s2 := (hO.out.2.1.below hR6.out.2).s2
               have HBW : Hid (w1.heap.size <= wr.heap.size) := hR6.out.2.size
               by_cases hlt : F.length + i + 1 < s.bl
               · have HOB : Hid ((F ++ List.replicate i (0 : Int)).length <= 1000000) := by unfold Hid; omega
                 have HAP : Hid ((F ++ List.replicate i (0 : Int)) ++ [0] = F ++ List.replicate (i + 1) 0) := by unfold Hid; rw [List.append_assoc, List.replicate_succ']
                 obtain ⟨O, hO2⟩ : ∃ O, F ++ List.replicate i (0 : Int) = O := ⟨_, rfl⟩
                 rw [hO2] at hR6 hlen HOB HAP ⊢
                 clear hO2
                 go_wp2_with (first
                   | (at_builtin
                      refine wpList_append_byte wr rfl (.tmp 145) (.tmp 146) rfl O _ hR6.out.1 rfl rfl rfl HOB.out HBW.out ?_
                      intro A7 c7 w7 h7 k7
                      have H7 := Lib.hid h7
                      have K7 := Lib.hid k7
                      clear h7 k7))
                 go_roundw
                 case rel =>
                  refine ⟨i + 1, A7, c7, by omega, ?_, ?_⟩
                  · simp [Nat.add_assoc]
                  · rw [<- HAP.out]
                    exact ⟨H7.out, Kp.below hR6.out.2 K7.out HBW.out (fun b hb e => by have := (hR6.out.1.lt e).1; omega)⟩
                 case measure => simp; omega
               · have hie : i = s.bl - 1 - F.length := by omega
                 have hjl : (F.length : Int) + i = (s.bl : Int) - 1 := by omega
                 have HOB : Hid ((F ++ List.replicate i (0 : Int)).length <= 1000000) := by unfold Hid; omega
                 have HAP : Hid ((F ++ List.replicate i (0 : Int)) ++ [231] = fillB F s.bl) := by unfold Hid; rw [fillB_by F s.bl hFb, hie]
                 have hbB : ∀ x ∈ fillB F s.bl, ByteOk x := fillB_bd F s.bl HFBD.out
                 have hBl : (fillB F s.bl).length = s.bl := fillB_length F s.bl (by omega)
                 have HBB := Lib.hid hbB
                 have HBL := Lib.hid hBl
                 have HD : Hid (doneB F s.bl = sumB (fillB F s.bl) (sumS 0 (fillB F s.bl))) := rfl
                 have hSb : U32 (sumS 0 (fillB F s.bl)) := sumS_bd _ _ ⟨by omega, by omega⟩ hbB
                 have HSB := Lib.hid hSb
                 have hS0 : 0 <= sumS 0 (fillB F s.bl) := hSb.1
                 have hS1 : sumS 0 (fillB F s.bl) <= 4294967295 := hSb.2
                 obtain ⟨O, hO2⟩ : ∃ O, F ++ List.replicate i (0 : Int) = O := ⟨_, rfl⟩
                 rw [hO2] at hR6 hlen HOB HAP ⊢
                 clear hO2 hbB hBl hSb hie
                 generalize fillB F s.bl = Z at *
                 obtain ⟨S, hS⟩ : ∃ S, sumS 0 Z = S := ⟨_, rfl⟩
                 rw [hS] at HD HSB hS0 hS1
                 have HS := Lib.hid hS
                 clear hS
                 go_wp2_with (first
                   | (at_builtin
                      refine wpList_append_byte wr rfl (.tmp 148) (.tmp 149) rfl O _ hR6.out.1 rfl rfl rfl HOB.out HBW.out ?_
                      intro A7 c7 w7 h7 k7
                      have H7 := Lib.hid h7
                      have K7 := Lib.hid k7
                      clear h7 k7))
                 have e7 : F.length + i + 1 = s.bl := by omega
                 have hz7 : BRow w7 w1.heap.size A7 c7 Z := by rw [<- HAP.out]; exact H7.out
                 have hb7 : Below w1.heap.size w1 w7 := Kp.below hR6.out.2 K7.out HBW.out (fun b hb e => by have := (hR6.out.1.lt e).1; omega)
                 obtain ⟨g7, rfl, _⟩ := hz7.at_ (k := 0) (by rw [HBL.out]; omega)
                 have hg7 : g7 < w7.heap.size ∧ w1.heap.size <= g7 := by have := hz7.lt (b := g7) rfl; omega
                 have HSUM := qsum_any (w7.alloc (.cells #[.int .i64 4] 3)) _ _ c7 Z (hz7.alloc _).reads HBB.out (by rw [HBL.out]; omega)
                 rw [HBL.out, HS.out] at HSUM
                 have HZ7 := Lib.hid (And.intro hz7 (And.intro hb7 hg7))
                 rw [e7]
                 clear hz7 hb7 hg7 H7 K7 hR6 HAP e7 hlen hjl hi hlt s2
                 refine HSUM.mono ?_
                 rintro e w' ⟨rfl, rfl⟩
                 have HPK := Lib.hid (qlits w7 S HSB.out)
                 clear HSUM
                 go_wp2_with (fail)
                 refine HPK.out.mono ?_
                 rintro e w9 ⟨A9, c9, rfl, hr9, hb9⟩
                 have HR9 : Hid (BRow w9 w7.heap.size A9 c9 (beB 4 S) ∧ BRow w9 w1.heap.size (some ⟨g7, 0, none⟩) c7 (Z.take 4 ++ ((beB 4 S).take 0 ++ Z.drop (4 + 0))) ∧ Below w1.heap.size w1 w9) := ⟨hr9, by simpa using HZ7.out.1.below hb9 (Nat.le_refl _), HZ7.out.2.1.trans (hb9.mono HZ7.out.2.1.size)⟩
                 have HG7 := Lib.hid HZ7.out.2.2
                 clear hr9 hb9 HZ7 HPK
                 go_wp2_with (fail)
                 go_loopw [19] (fun i w5 => ∃ i4 : Nat, i4 <= 4 ∧ i = .int .i64 i4 ∧ Hid (BRow w5 w7.heap.size A9 c9 (beB 4 S) ∧ BRow w5 w1.heap.size (some ⟨g7, 0, none⟩) c7 (Z.take 4 ++ ((beB 4 S).take i4 ++ Z.drop (4 + i4))) ∧ Below w1.heap.size w1 w5)) (fun i _ => 4 - (intOf i).toNat)
                 case atStart => exact ⟨0, by omega, rfl, HR9⟩
                 case round =>
                  obtain ⟨i4, hi4, rfl, hr⟩ := hrel
                  clear HR9
                  have hZL : (Z.take 4 ++ ((beB 4 S).take i4 ++ Z.drop (4 + i4))).length = s.bl := by
                   have := HBL.out
                   have := beB_length 4 S
                   simp
                   omega
                  by_cases hlt : i4 < 4
                  · obtain ⟨g9, rfl, hc9⟩ := hr.out.1.at_ (k := i4) (by rw [beB_length]; exact hlt)
                    obtain ⟨g7', e7, hc7⟩ := hr.out.2.1.at_ (k := 4 + i4) (by rw [hZL]; omega)
                    injection e7 with e7
                    injection e7 with e7
                    subst e7
                    have hf7 := hr.out.2.1.frozen (4 + i4)
                    obtain ⟨q, hq⟩ : ∃ q : Nat, 4 + i4 = q := ⟨_, rfl⟩
                    have hk4 : (q : Int) < s.bl := by omega
                    have hk5 : (4 : Int) + i4 = (q : Int) := by omega
                    have HST := Lib.hid (hr.out.2.1.set_last (k := 4 + i4) (by rw [hZL]; omega) ((beB 4 S).getD i4 0))
                    have HTK4 := Lib.hid (sumB_take Z S (by rw [HBL.out]; omega) i4 hlt)
                    have h9 : g9 ≠ g7 := by have := (hr.out.1.lt (b := g9) rfl).1; have := HG7.out.1; omega
                    have H9 : Hid (BRow (wr.setCell ⟨g7, 4 + i4, none⟩ (.int .u8 ((beB 4 S).getD i4 0))) w7.heap.size (some ⟨g9, 0, none⟩) c9 (beB 4 S)) := hr.out.1.of_block (fun b hb => Below.heap_setCell wr _ _ b (by
                     have e : g9 = b := by simpa [Value.ownBlock] using hb
                     subst e
                     exact h9))
                    have HBS : Hid (Below w1.heap.size w1 (wr.setCell ⟨g7, 4 + i4, none⟩ (.int .u8 ((beB 4 S).getD i4 0)))) := hr.out.2.2.setCell (by have := HG7.out.2; show w1.heap.size <= g7; omega) _
                    have h9l : (beB 4 S).length = 4 := beB_length 4 S
                    rw [hq] at hc7 hf7 HST H9 HBS HTK4
                    obtain ⟨v9, hv9⟩ : ∃ v9, (beB 4 S).getD i4 0 = v9 := ⟨_, rfl⟩
                    rw [hv9] at hc9 HST H9 HBS HTK4
                    clear hr h9 hq hv9
                    generalize (Z.take 4 ++ ((beB 4 S).take i4 ++ Z.drop q)).getD q 0 = y at hc7
                    go_wp2
                    go_roundw
                    case rel => exact ⟨i4 + 1, hlt, by go_num, H9.out, by rw [<- HTK4.out]; exact HST.out, HBS.out⟩
                    case measure => simp [intOf]; omega
                  · obtain rfl : i4 = 4 := by omega
                    have hfin : Z.take 4 ++ ((beB 4 S).take 4 ++ Z.drop (4 + 4)) = blockC s.bl k m seq C := by
                     rw [HE1.out, HD.out]
                     unfold sumB
                     rw [List.take_of_length_le (l := beB 4 S) (by rw [beB_length]; exact Nat.le_refl _)]
                    rw [hfin] at hZL hr
                    have hr2 := hr.out
                    obtain ⟨A3, c3, w10, hap, hbs, hk10⟩ := (hO.out.1.below hr2.2.2).app hr2.2.1 (by rw [hZL]; omega) hO.out.2.2 (by rw [List.length_take]; omega) (by have := hr2.2.2.size; have := hO.out.2.2; omega)
                    have hek : (E.take k).length = k := by rw [List.length_take, HNL.out]; have := HKM.out; omega
                    rw [hZL, hek] at hap
                    rw [hek] at hk10
                    have HAP2 := Lib.hid hap
                    have hen : QEn w w10 s seq A c L := (hO.out.2.1.below hr2.2.2).kp hk10 (fun b e => by
                     have := (hO.out.1.lt (g := b) (by rw [hek]; exact e)).1
                     exact this) HLT.out
                    have HEN : Hid (BsO w10 (w.heap.size + 2) A3 c3 (E.take (k + 1)) ∧ QEn w w10 s seq A c L ∧ w.heap.size + 2 <= w10.heap.size) := by
                     rw [HTKK.out]
                     exact ⟨hbs, hen, by have := hk10.size; have := hr2.2.2.size; have := hO.out.2.2; omega⟩
                    clear hr hr2 hfin hZL hap hbs hk10 hek hen
                    go_wp2_with (first
                      | (at_builtin
                         refine wpList_append_runz rfl (.tmp 169) (.tmp 171) _ rfl rfl rfl HAP2.out ?_))
                    go_roundw
                    case rel => exact ⟨k + 1, A3, c3, HKM.out, by go_num, rfl, HEN⟩
                    case measure => have := HKM.out; simp [intOf]; omega
        · obtain rfl : k = m := by omega
          have hkI : ¬ (k : Int) < k := by omega
          have hO2 := hO.out
          rw [List.take_of_length_le (by rw [HNL.out]; exact Nat.le_refl _)] at hO2
          have HO2 := Lib.hid hO2
          clear hO2 hO
          go_wp2
          go_ret2
          exact HUN.out _ _ (.inl ⟨by have := HBG.out; omega, A1, c1, rfl, HO2.out.1.blocksY.mono_ (fun b hb => by omega), HO2.out.2.1.low⟩)
end Go.Proofs.YtfabgbmbnmbjkaaGreatDoor

/- Pruned. -/
namespace Go.Proofs.YtfabgbmbnmbjkaaGreatDoor
open Go.RowKit
set_option maxRecDepth 20000
theorem appsP_snoc (P : List Part) (z : Nat) (bs : List (List Int)) (b : List Int) : appsP P z (bs ++ [b]) = appP (appsP P z bs) z b := by simp [appsP]
theorem appsP_length (P : List Part) (z : Nat) (bs : List (List Int)) : (appsP P z bs).length = P.length := by
 unfold appsP
 induction bs generalizing P with
 | nil => rfl
 | cons b r ih => rw [List.foldl_cons, ih, appP_length]
theorem appsP_same (P : List Part) (z : Nat) (bs : List (List Int)) (hz : z < P.length) : ((appsP P z bs).getD z pt0).bs = (P.getD z pt0).bs ++ bs ∧ ((appsP P z bs).getD z pt0).du = (P.getD z pt0).du := by
 unfold appsP
 induction bs generalizing P with
 | nil => simp
 | cons b r ih =>
   rw [List.foldl_cons]
   have h := ih (appP P z b) (by rw [appP_length]; exact hz)
   rw [appP_same _ _ _ hz] at h
   exact ⟨by rw [h.1]; simp, h.2⟩
theorem take_snocL (E : List (List Int)) (k : Nat) (h : k < E.length) : E.take (k + 1) = E.take k ++ [E.getD k []] := by
 rw [List.take_succ_eq_append_getElem h, List.getD_eq_getElem?_getD, List.getElem?_eq_getElem h]
 rfl
theorem qcenc_yes (s : Sh) (hs : s.ok) (seq : Int) (hq : 0 <= seq ∧ seq <= 18446744073709551615) (L : List Pl) (A : Option Addr) (c : Nat) (w : World) (h : RowAt w A L) (hlt : ∀ r, A = some ⟨r, 0, none⟩ -> r < w.heap.size) (hok : PlacesOk s L) (hl : L.length <= 100000) (hm : manyC L.length (roomC s.bl) <= s.zb) :
    Calls Tryz.prog 92 #[shV s, .agg #[.int .u64 seq, .slice A L.length c]] w (fun e w' => ∃ A c, e = .returned (.tuple #[.slice A (manyC L.length (roomC s.bl)) c, .int .i64 0]) ∧ BlocksY (fun b => w.heap.size <= b) w' A (encC s.bl seq L) ∧ Below w.heap.size w w') :=
 (qcenc_any s hs seq hq L A c w h hlt hok hl).mono fun e w' h => by
   rcases h with ⟨_, h⟩ | ⟨h, _⟩
   · exact h
   · omega
theorem qcenc_no (s : Sh) (hs : s.ok) (seq : Int) (hq : 0 <= seq ∧ seq <= 18446744073709551615) (L : List Pl) (A : Option Addr) (c : Nat) (w : World) (h : RowAt w A L) (hlt : ∀ r, A = some ⟨r, 0, none⟩ -> r < w.heap.size) (hok : PlacesOk s L) (hl : L.length <= 100000) (hm : ¬ manyC L.length (roomC s.bl) <= s.zb) :
    Calls Tryz.prog 92 #[shV s, .agg #[.int .u64 seq, .slice A L.length c]] w (fun e w' => e = .returned (.tuple #[.slice none 0 0, .int .i64 140]) ∧ Below w.heap.size w w') :=
 (qcenc_any s hs seq hq L A c w h hlt hok hl).mono fun e w' h => by
   rcases h with ⟨h, _⟩ | ⟨_, h⟩
   · omega
   · exact h
theorem DataY.kl {Y : Nat -> Prop} {l : Nat} {w w' : World} {A : Option Addr} {b : List Int} (h : DataY Y w A b) (hk : Kp (fun b => b = l) w w') (hY : ¬ Y l) : DataY Y w' A b := by
 obtain ⟨g, cs, e, hy, hB, hc⟩ := h
 exact ⟨g, cs, e, hy, hk.blk hB (fun e => hY (e ▸ hy)), hc⟩
theorem BlocksY.kl_ {Y : Nat -> Prop} {l : Nat} {w w' : World} {A : Option Addr} {bs : List (List Int)} (h : BlocksY Y w A bs) (hk : Kp (fun b => b = l) w w') (hY : ¬ Y l) : BlocksY Y w' A bs := fun h0 => by
 obtain ⟨g, cs, e, hy, hB, hc⟩ := h h0
 refine ⟨g, cs, e, hy, hk.blk hB (fun e => hY (e ▸ hy)), fun j hj => ?_⟩
 obtain ⟨Aj, cj, e1, hd⟩ := hc j hj
 exact ⟨Aj, cj, e1, hd.kl hk hY⟩
theorem BlocksY.kl {s0 l : Nat} {w w' : World} {A : Option Addr} {bs : List (List Int)} (h : BlocksY (fun b => s0 <= b) w A bs) (hk : Kp (fun b => b = l) w w') (hl : l < s0) : BlocksY (fun b => s0 <= b) w' A bs := h.kl_ hk (by omega)
def QSaved (Y : Nat -> Prop) (d l : Nat) (s : Sh) (P : List Part) (z : Nat) (seq : Int) (L : List Pl) (w : World) (e : Ending) (w' : World) : Prop :=
 e = .returned (.int .i64 (if manyC L.length (roomC s.bl) <= s.zb then 0 else 140)) ∧ QDev Y w' d l s (if manyC L.length (roomC s.bl) <= s.zb then saveL P z (encC s.bl seq L) else P) ∧ Kp (fun b => b = l) w w'
set_option maxHeartbeats 4000000 in
theorem qsave_any (Y : Nat -> Prop) (w : World) (d l : Nat) (s : Sh) (P : List Part) (z : Nat) (hz : z < 2) (seq : Int) (hq : 0 <= seq ∧ seq <= 18446744073709551615) (L : List Pl) (A : Option Addr) (c : Nat) (hr : RowAt w A L) (hlt : ∀ r, A = some ⟨r, 0, none⟩ -> r < w.heap.size) (hok : PlacesOk s L) (hl : L.length <= 100000) (h : QDev Y w d l s P) :
    Calls Tryz.prog 45 #[.pointer (some ⟨d, 0, none⟩), .int .i64 z, .agg #[.int .u64 seq, .slice A L.length c]] w (QSaved Y d l s P z seq L w) := by
 have hsz := h.sz
 have hs := h.ok
 have hf := hs.facts
 have hzP : z < P.length := by omega
 have H := Lib.hid h
 have HS := Lib.hid (fun u (hu : QDev Y u d l s P) => qshape_any Y u d l s P hu)
 have hal : Below w.heap.size w (w.alloc (.cells #[.int .u64 seq, .slice A L.length c] 82)) := (Below.refl _ w).alloc (Nat.le_refl _) _
 have k0 := Blk.new w 82 #[.int .u64 seq, .slice A L.length c]
 have HROW := Lib.hid hr
 have HLT := Lib.hid hlt
 have HAL := Lib.hid hal
 have HZ := Lib.hid (And.intro hzP (And.intro hs hf))
 have HOK := Lib.hid hok
 have hzc : z = 0 ∨ z = 1 := by omega
 by_cases hm : manyC L.length (roomC s.bl) <= s.zb
 · have HE := Lib.hid (fun u (hu : Below w.heap.size w u) => qcenc_yes s hs seq hq L A c u (hr.below hu) (fun r e => Nat.lt_of_lt_of_le (hlt r e) hu.size) hok hl hm)
   have HPO : Hid (∀ e w', (e = .returned (.int .i64 0) ∧ QDev Y w' d l s (saveL P z (encC s.bl seq L)) ∧ Kp (fun b => b = l) w w') -> QSaved Y d l s P z seq L w e w') := fun e w' h => by unfold QSaved; rw [if_pos hm, if_pos hm]; exact h
   have HEL := Lib.hid (encC_length s.bl seq L)
   have HEF := Lib.hid (encC_fit s.bl seq L (by omega))
   have HSV : Hid (saveL P z (encC s.bl seq L) = flushP (appsP (P.set z pt0) z (encC s.bl seq L))) := rfl
   generalize manyC L.length (roomC s.bl) = m at *
   generalize encC s.bl seq L = E at *
   have hm9 : m <= 4096 := by omega
   have HM := Lib.hid hm
   clear h hr hlt hok hs hsz hq hl hal hzP hm
   unfold shV at *
   have HE0 := Lib.hid (HE.out _ HAL.out.drew)
   have HS0 := Lib.hid (HS.out _ (H.out.below HAL.out).drew)
   have ks : (w.alloc (.cells #[.int .u64 seq, .slice A L.length c] 82)).cell? ⟨w.heap.size, 0, none⟩ = some (.int .u64 seq) ∧ (w.alloc (.cells #[.int .u64 seq, .slice A L.length c] 82)).cell? ⟨w.heap.size, 1, none⟩ = some (.slice A L.length c) := ⟨k0.cell 0, k0.cell 1⟩
   clear k0
   go_enter Tryz.func45, Tryz.ntmps45
   go_upto_region 1 with (fail)
   obtain ⟨w0, hw0⟩ : ∃ w0, w.alloc (.cells #[.int .u64 seq, .slice A L.length c] 82) = w0 := ⟨_, rfl⟩
   rw [hw0] at ks HS0 HE0 HAL ⊢
   clear hw0
   go_cut [15] (fun s15 wx => s15 = .bool false ∧ w0 = wx)
   case first =>
    rcases hzc with rfl | rfl
    all_goals
     go_wp2_with (fail)
     go_meet
     exact ⟨rfl, rfl⟩
   case rest =>
   obtain ⟨rfl, rfl⟩ := hcut
   go_wp2_with (fail)
   go_region_held3 (fun u => u.cell? ⟨w.heap.size, 0, none⟩ = some (.int .u64 seq) ∧ u.cell? ⟨w.heap.size, 1, none⟩ = some (.slice A L.length c))
     (first | exact ks | exact ks2 | exact ks3)
     (first
       | (go_at_call 93
          with_reducible refine HS0.out.mono ?_
          rintro e w2 ⟨rfl, hb⟩
          have ks2 : w2.cell? ⟨w.heap.size, 0, none⟩ = some (.int .u64 seq) ∧ w2.cell? ⟨w.heap.size, 1, none⟩ = some (.slice A L.length c) := ⟨below_keep hb ks.1, below_keep hb ks.2⟩
          have HB2 := Lib.hid (HAL.out.drew.trans (hb.mono HAL.out.drew.size))
          clear hb)
       | (go_at_call 92
          refine (HE.out _ HB2.out).mono ?_
          rintro e w3 ⟨A3, c3, rfl, hb3, hb⟩
          have ks3 : w3.cell? ⟨w.heap.size, 0, none⟩ = some (.int .u64 seq) ∧ w3.cell? ⟨w.heap.size, 1, none⟩ = some (.slice A L.length c) := ⟨below_keep hb ks2.1, below_keep hb ks2.2⟩
          have HB3 : Hid (BlocksY (fun b => w.heap.size <= b) w3 A3 E ∧ Below w.heap.size w w3) := ⟨hb3.mono_ (fun b h => Nat.le_trans HB2.out.size h), HB2.out.trans (hb.mono HB2.out.size)⟩
          clear hb hb3))
   all_goals
    clear ks ks2 ks3 HS0 HE0
    go_wp2_with (fail)
    refine (qreset_any Y w3 d l s P z HZ.out.1 (H.out.below HB3.out.2)).mono ?_
    rintro e w4 ⟨rfl, hq4, hk4⟩
    have HL4 : Hid (QDev Y w4 d l s (appsP (P.set z pt0) z (E.take 0)) ∧ BlocksY (fun b => w.heap.size <= b) w4 A3 E ∧ Kp (fun b => b = l) w w4) := ⟨hq4, HB3.out.1.kl hk4 H.out.llt, (Kp.of_below HB3.out.2).trans hk4 (fun _ _ h => h)⟩
    clear hq4 hk4 HB3 HB2
    go_wp2_with (fail)
    go_loopw [9] (fun i wr => ∃ k : Nat, k <= m ∧ i = .int .i64 k ∧ Hid (QDev Y wr d l s (appsP (P.set z pt0) z (E.take k)) ∧ BlocksY (fun b => w.heap.size <= b) wr A3 E ∧ Kp (fun b => b = l) w wr)) (fun i _ => m - (intOf i).toNat)
    case atStart => exact ⟨0, Nat.zero_le _, rfl, HL4⟩
    case round =>
     obtain ⟨k, hk, rfl, hI⟩ := hrel
     clear HL4
     by_cases hkm : k < m
     · have hkE : k < E.length := by rw [HEL.out]; exact hkm
       obtain ⟨g, cs, rfl, hg, hB, hc⟩ := hI.out.2.1 (by omega)
       obtain ⟨Aj, cj, e1, hd⟩ := hc k hkE
       have b1 : wr.cell? ⟨g, k, none⟩ = some (.slice Aj (E.getD k []).length cj) := (hB.cell k).trans e1
       have hfit := HEF.out _ (getD_mem (d := []) hkE)
       have hzl : z < (appsP (P.set z pt0) z (E.take k)).length := by rw [appsP_length]; simpa using HZ.out.1
       have hsame := appsP_same (P.set z pt0) z (E.take k) (by simpa using HZ.out.1)
       have hlen : ((appsP (P.set z pt0) z (E.take k)).getD z pt0).bs.length < s.zb := by
        rw [hsame.1, getD_set_same _ _ _ _ HZ.out.1]
        simp [pt0]
        have := HM.out
        omega
       have HA := Lib.hid (qappend_any Y wr d l s (appsP (P.set z pt0) z (E.take k)) z hzl hI.out.1 _ Aj cj (E.getD k []) hfit.1 hfit.2 hlen hd.reads)
       have HSN := Lib.hid (take_snocL E k hkE)
       have HKM := Lib.hid hkm
       clear hB hc e1 hd hfit hzl hsame hlen
       generalize E.getD k [] = b at *
       go_wp2_with (fail)
       refine HA.out.mono ?_
       rintro e w5 ⟨rfl, hq5, hk5⟩
       have HL5 : Hid (QDev Y w5 d l s (appsP (P.set z pt0) z (E.take (k + 1))) ∧ BlocksY (fun b => w.heap.size <= b) w5 (some ⟨g, 0, none⟩) E ∧ Kp (fun b => b = l) w w5) := ⟨by rw [HSN.out, appsP_snoc]; exact hq5, hI.out.2.1.kl hk5 H.out.llt, hI.out.2.2.trans hk5 (fun _ _ h => h)⟩
       clear hq5 hk5 b1 HA hI
       go_wp2
       go_roundw
       case rel => exact ⟨k + 1, HKM.out, by go_num, HL5⟩
       case measure => have := HKM.out; simp [intOf]; omega
     · obtain rfl : k = m := by omega
       have hI2 := hI.out
       rw [List.take_of_length_le (by rw [HEL.out]; exact Nat.le_refl _)] at hI2
       have HI2 := Lib.hid hI2
       clear hI2 hI
       go_wp2_with (fail)
       refine (qflush_any Y wr d l s _ HI2.out.1).mono ?_
       rintro e w6 ⟨rfl, hq6, hk6⟩
       have HF6 := Lib.hid (And.intro hq6 (HI2.out.2.2.trans hk6 (fun _ _ h => h)))
       clear hq6 hk6
       go_wp2
       go_ret
       exact HPO.out _ _ ⟨rfl, by rw [HSV.out]; exact HF6.out.1, HF6.out.2⟩
 · have HE := Lib.hid (fun u (hu : Below w.heap.size w u) => qcenc_no s hs seq hq L A c u (hr.below hu) (fun r e => Nat.lt_of_lt_of_le (hlt r e) hu.size) hok hl hm)
   have HPO : Hid (∀ e w', (e = .returned (.int .i64 140) ∧ QDev Y w' d l s P ∧ Kp (fun b => b = l) w w') -> QSaved Y d l s P z seq L w e w') := fun e w' h => by unfold QSaved; rw [if_neg hm, if_neg hm]; exact h
   clear h hr hlt hok hs hsz hq hl hal hzP hm
   unfold shV at *
   have HE0 := Lib.hid (HE.out _ HAL.out.drew)
   have HS0 := Lib.hid (HS.out _ (H.out.below HAL.out).drew)
   have ks : (w.alloc (.cells #[.int .u64 seq, .slice A L.length c] 82)).cell? ⟨w.heap.size, 0, none⟩ = some (.int .u64 seq) ∧ (w.alloc (.cells #[.int .u64 seq, .slice A L.length c] 82)).cell? ⟨w.heap.size, 1, none⟩ = some (.slice A L.length c) := ⟨k0.cell 0, k0.cell 1⟩
   clear k0
   go_enter Tryz.func45, Tryz.ntmps45
   go_upto_region 1 with (fail)
   obtain ⟨w0, hw0⟩ : ∃ w0, w.alloc (.cells #[.int .u64 seq, .slice A L.length c] 82) = w0 := ⟨_, rfl⟩
   rw [hw0] at ks HS0 HE0 HAL ⊢
   clear hw0
   go_cut [15] (fun s15 wx => s15 = .bool false ∧ w0 = wx)
   case first =>
    rcases hzc with rfl | rfl
    all_goals
     go_wp2_with (fail)
     go_meet
     exact ⟨rfl, rfl⟩
   case rest =>
   obtain ⟨rfl, rfl⟩ := hcut
   go_wp2_with (fail)
   go_region_held3 (fun u => u.cell? ⟨w.heap.size, 0, none⟩ = some (.int .u64 seq) ∧ u.cell? ⟨w.heap.size, 1, none⟩ = some (.slice A L.length c))
     (first | exact ks | exact ks2 | exact ks3)
     (first
       | (go_at_call 93
          with_reducible refine HS0.out.mono ?_
          rintro e w2 ⟨rfl, hb⟩
          have ks2 : w2.cell? ⟨w.heap.size, 0, none⟩ = some (.int .u64 seq) ∧ w2.cell? ⟨w.heap.size, 1, none⟩ = some (.slice A L.length c) := ⟨below_keep hb ks.1, below_keep hb ks.2⟩
          have HB2 := Lib.hid (HAL.out.drew.trans (hb.mono HAL.out.drew.size))
          clear hb)
       | (go_at_call 92
          refine (HE.out _ HB2.out).mono ?_
          rintro e w3 ⟨rfl, hb⟩
          have ks3 : w3.cell? ⟨w.heap.size, 0, none⟩ = some (.int .u64 seq) ∧ w3.cell? ⟨w.heap.size, 1, none⟩ = some (.slice A L.length c) := ⟨below_keep hb ks2.1, below_keep hb ks2.2⟩
          have HB3 : Hid (Below w.heap.size w w3) := HB2.out.trans (hb.mono HB2.out.size)
          clear hb))
   all_goals
    clear ks ks2 ks3 HS0 HE0
    go_wp2
    go_ret
    exact HPO.out _ _ ⟨rfl, H.out.below HB3.out, Kp.of_below HB3.out⟩
end Go.Proofs.YtfabgbmbnmbjkaaGreatDoor

