/- Joined texts: Qu. -/
import Derived.Test.YtfabgbmbnmbjkaaGreatDoorRbh
/- Pruned. -/
namespace Go.Proofs.YtfabgbmbnmbjkaaGreatDoor
open Go.RowKit
set_option maxRecDepth 20000
theorem u64_info : (Tryz.prog.info? 40).map (fun i => (i.zero, i.size, i.bytes)) = some (some (.int .u64 0), 1, 8) := by kernel_rfl
theorem run_make_u64 (n : Nat) (h : n <= 65536) (w : World) : (Instr.makeSlice 97 (.int .i64 (n : Int)) (.int .i64 (n : Int))).run Tryz.prog w = .ok (.slice (some ⟨w.heap.size, 0, none⟩) n n) (w.alloc (.cells (madeCells #[.int .u64 0] n) 40)) := by
 obtain ⟨i, hi, hz, hs, hb⟩ := info_parts u64_info
 have hr := run_make (P := Tryz.prog) w 97 40 i (.int .u64 0) Tryz.underlying97 hi hz .i64 .i64 n n (by omega) (by omega) (by rw [hb]; omega) (by omega)
 simp only [Int.toNat_natCast] at hr
 rw [hr, hs]
 simp
 rfl
theorem madeU64 (n : Nat) : madeCells #[.int .u64 0] n = (nums .u64 (List.replicate n 0)).toArray := by
 refine Array.ext_getElem? fun j => ?_
 by_cases hj : j < n
 · simp [madeCells, nums, hj, Nat.mod_one]
 · simp [madeCells, nums, hj]
theorem endsL_new (sh : Sh) (P : List Part) : endsL sh (newM sh P) = List.replicate sh.z 0 := by
 unfold endsL
 refine List.ext_getElem? fun i => ?_
 rw [List.getElem?_map, List.getElem?_replicate]
 by_cases hi : i < sh.z
 · rw [List.getElem?_range hi, if_pos hi]
   rfl
 · rw [if_neg hi, List.getElem?_eq_none (by simp; omega)]
   rfl
def Ext (u v : World) : Prop := Below u.heap.size u v
theorem Ext.trans {u v x : World} (h : Ext u v) (k : Ext v x) : Ext u x := Below.trans h (Below.mono k h.size)
theorem Ext.drew (u : World) : Ext u u.drew := (Below.refl _ _).drew
theorem Ext.alloc (u : World) (o : Obj) : Ext u (u.alloc o) := (Below.refl _ _).alloc (Nat.le_refl _) o
theorem rnewe_any (w : World) : Calls Tryz.prog 98 #[] w fun e w' => ∃ g, e = .returned (.pointer (some ⟨g, 0, none⟩)) ∧ w.heap.size <= g ∧ Blk w' g 165 #[.slice none 0 0] ∧ Below w.heap.size w w' := by
 go_enter Tryz.func98, Tryz.ntmps98
 go_wp2
 go_ret
 exact ⟨w.heap.size, by simp, Nat.le_refl _, Blk.new w _ _, (Below.refl _ _).alloc (Nat.le_refl _) _⟩
theorem qon_end {Y : Nat -> Prop} {w u : World} {d l g b cap mm e r : Nat} {ex : List Value} {sh : Sh} {P : List Part} (h : QDev Y w d l sh P) (hB : Ext w u) (hs : RefIs u g b cap ex (newL sh.z) sh.z sh.zb sh.bl sh.rs) (hm : Blk u mm 165 #[.slice none 0 0]) (he : Blk u e 40 (madeCells #[.int .u64 0] sh.z))
    (hg : w.heap.size <= g) (hb : w.heap.size <= b) (hmm : w.heap.size <= mm) (hee : w.heap.size <= e) (hr : u.heap.size = r) :
    ∃ Q : QF, Value.pointer (some ⟨r, 0, none⟩) = .pointer (some ⟨Q.r, 0, none⟩) ∧ Hid (Q.d = d ∧ Q.l = l ∧ w.heap.size <= Q.r ∧ w.heap.size <= Q.b ∧ w.heap.size <= Q.mm ∧ w.heap.size <= Q.e ∧
      QSto Y (u.alloc (.cells #[.pointer (some ⟨d, 0, none⟩), .pointer (some ⟨g, 0, none⟩), .pointer (some ⟨mm, 0, none⟩), .int .u64 0, .slice (some ⟨e, 0, none⟩) sh.z sh.z, .int .i64 0] 99)) Q sh 0 (newM sh P) ∧
      Below w.heap.size w (u.alloc (.cells #[.pointer (some ⟨d, 0, none⟩), .pointer (some ⟨g, 0, none⟩), .pointer (some ⟨mm, 0, none⟩), .int .u64 0, .slice (some ⟨e, 0, none⟩) sh.z sh.z, .int .i64 0] 99))) := by
 subst hr
 have hs9 := hB.size
 have hB9 : Below w.heap.size w (u.alloc (.cells #[.pointer (some ⟨d, 0, none⟩), .pointer (some ⟨g, 0, none⟩), .pointer (some ⟨mm, 0, none⟩), .int .u64 0, .slice (some ⟨e, 0, none⟩) sh.z sh.z, .int .i64 0] 99)) := Below.alloc hB hs9 _
 refine ⟨⟨u.heap.size, d, l, g, b, cap, ex, mm, e⟩, rfl, rfl, rfl, hs9, hb, hmm, hee, ?_, hB9⟩
 have hn : ∀ i, w.heap.size <= i -> Y i := h.nw
 have hsz : ∀ o : Obj, (u.alloc o).heap.size = u.heap.size + 1 := fun o => by simp
 have hm9 := hm.alloc (.cells #[.pointer (some ⟨d, 0, none⟩), .pointer (some ⟨g, 0, none⟩), .pointer (some ⟨mm, 0, none⟩), .int .u64 0, .slice (some ⟨e, 0, none⟩) sh.z sh.z, .int .i64 0] 99)
 refine ⟨Blk.new u _ _, ?_, hs.alloc _, ⟨[], Twin.nil, ⟨⟨none, 0, hm9, ⟨rfl, .inl ⟨rfl, rfl⟩⟩⟩, hn _ hmm, fun A' c' i e1 e2 => ?_⟩⟩, ?_, hn _ hs9, hn _ hg, hn _ hb, hn _ hee, fun i hi => hn i (by have := hsz (.cells #[.pointer (some ⟨d, 0, none⟩), .pointer (some ⟨g, 0, none⟩), .pointer (some ⟨mm, 0, none⟩), .int .u64 0, .slice (some ⟨e, 0, none⟩) sh.z sh.z, .int .i64 0] 99); omega), ⟨Nat.le_refl _, by omega⟩, ⟨Int.le_refl _, by show (0 : Int) <= _; omega⟩⟩
 · refine h.move (fun i hi hy => ⟨⟨hy, by show i ≠ b; omega⟩, hB9.block i hi⟩) (fun i hi => ⟨hn i (Nat.le_trans hB9.size hi), fun e9 => ?_⟩)
   have h1 := hs.row.lt
   have h2 := hsz (.cells #[.pointer (some ⟨d, 0, none⟩), .pointer (some ⟨g, 0, none⟩), .pointer (some ⟨mm, 0, none⟩), .int .u64 0, .slice (some ⟨e, 0, none⟩) sh.z sh.z, .int .i64 0] 99)
   have h3 : i = b := e9
   omega
 · have e3 := hm9.cell 0
   rw [e1] at e3
   have e4 : Value.slice A' ([] : List Pl).length c' = .slice none 0 0 := Option.some.inj e3
   rw [e4] at e2
   simp [Value.ownBlock] at e2
 · rw [endsL_new, <- madeU64]
   exact he.alloc _
set_option maxHeartbeats 4000000 in
theorem qon_any (Y : Nat -> Prop) (w : World) (d l : Nat) (sh : Sh) (P : List Part) (h : QDev Y w d l sh P) :
    Calls Tryz.prog 46 #[.pointer (some ⟨d, 0, none⟩), .int .u64 0, .slice none 0 0, .slice none 0 0, .int .i64 0] w
      (fun e w' => ∃ Q : QF, e = .returned (.pointer (some ⟨Q.r, 0, none⟩)) ∧ Q.d = d ∧ Q.l = l ∧ w.heap.size <= Q.r ∧ w.heap.size <= Q.b ∧ w.heap.size <= Q.mm ∧ w.heap.size <= Q.e ∧ QSto Y w' Q sh 0 (newM sh P) ∧ Below w.heap.size w w') := by
 have hok := h.ok
 have hf := hok.facts
 have HOK := Lib.hid hok
 have H := Lib.hid h
 have HNW := Lib.hid (fun u => refnew_any sh.z sh.zb sh.bl sh.rs u (by omega))
 have hmk := run_make_u64 sh.z (by omega)
 have k0 := h.t0
 have k1 := h.t1
 have k2 := h.t2
 have k3 := h.t3
 have hz9 : sh.z <= 256 := by omega
 clear h hok hf
 go_enter Tryz.func46, Tryz.ntmps46
 go_upto_region 1 with (fail)
 go_cut [11] (fun s11 wx => ∃ Q : QF, s11 = .pointer (some ⟨Q.r, 0, none⟩) ∧ Hid (Q.d = d ∧ Q.l = l ∧ w.heap.size <= Q.r ∧ w.heap.size <= Q.b ∧ w.heap.size <= Q.mm ∧ w.heap.size <= Q.e ∧ QSto Y wx Q sh 0 (newM sh P) ∧ Below w.heap.size w wx))
 case first =>
  go_region_held3 (fun u => u.cell? ⟨d, 0, none⟩ = some (.int .i64 sh.z) ∧ u.cell? ⟨d, 1, none⟩ = some (.int .i64 sh.zb) ∧ u.cell? ⟨d, 2, none⟩ = some (.int .i64 sh.bl) ∧ u.cell? ⟨d, 3, none⟩ = some (.int .i64 sh.rs))
    (first | exact ⟨k0, k1, k2, k3⟩ | exact ⟨s0, s1, s2, s3⟩ | exact ⟨m0, m1, m2, m3⟩ | go_keep)
    (first
      | (go_at_call 97
         refine (HNW.out _).mono ?_
         rintro e w2 ⟨hy, _, hb2⟩
         obtain ⟨g, b, cap, ex, rfl, hg2, hbb2, hseg⟩ := hy HOK.out.is
         have s0 : w2.cell? ⟨d, 0, none⟩ = some (.int .i64 sh.z) := below_keep hb2 (by first | exact k0 | exact m0 | simp [*])
         have s1 : w2.cell? ⟨d, 1, none⟩ = some (.int .i64 sh.zb) := below_keep hb2 (by first | exact k1 | exact m1 | simp [*])
         have s2 : w2.cell? ⟨d, 2, none⟩ = some (.int .i64 sh.bl) := below_keep hb2 (by first | exact k2 | exact m2 | simp [*])
         have s3 : w2.cell? ⟨d, 3, none⟩ = some (.int .i64 sh.rs) := below_keep hb2 (by first | exact k3 | exact m3 | simp [*])
         have HS2 := Lib.hid (And.intro hg2 (And.intro hbb2 (And.intro hseg hb2)))
         clear hy hb2 hg2 hbb2 hseg)
      | (go_at_call 98
         refine (rnewe_any _).mono ?_
         rintro e w3 ⟨mm, rfl, hmm3, hrm3, hb3⟩
         have m0 : w3.cell? ⟨d, 0, none⟩ = some (.int .i64 sh.z) := below_keep hb3 (by first | exact k0 | exact s0 | simp [*])
         have m1 : w3.cell? ⟨d, 1, none⟩ = some (.int .i64 sh.zb) := below_keep hb3 (by first | exact k1 | exact s1 | simp [*])
         have m2 : w3.cell? ⟨d, 2, none⟩ = some (.int .i64 sh.bl) := below_keep hb3 (by first | exact k2 | exact s2 | simp [*])
         have m3 : w3.cell? ⟨d, 3, none⟩ = some (.int .i64 sh.rs) := below_keep hb3 (by first | exact k3 | exact s3 | simp [*])
         have HM3 := Lib.hid (And.intro hmm3 (And.intro hrm3 hb3))
         clear hmm3 hrm3 hb3))
  all_goals
   go_wp2_with (fail)
   go_meet
   refine qon_end (g := g) (b := b) (mm := mm) (cap := cap) (ex := ex) H.out ?_ ?_ ?_ ?_ ?_ ?_ ?_ ?_ ?_
   case refine_1 =>
    first
    | exact (((Ext.drew w).trans HS2.out.2.2.2).trans HM3.out.2.2).trans (Ext.alloc _ _)
    | exact (((Ext.drew w).trans HS2.out.2.2.2).trans (Ext.alloc _ _)).trans HM3.out.2.2
    | exact (((Ext.drew w).trans (Ext.alloc _ _)).trans HS2.out.2.2.2).trans HM3.out.2.2
    | exact (((Ext.drew w).trans HM3.out.2.2).trans HS2.out.2.2.2).trans (Ext.alloc _ _)
    | exact (((Ext.drew w).trans HM3.out.2.2).trans (Ext.alloc _ _)).trans HS2.out.2.2.2
    | exact (((Ext.drew w).trans (Ext.alloc _ _)).trans HM3.out.2.2).trans HS2.out.2.2.2
   case refine_2 =>
    first
    | exact HS2.out.2.2.1
    | exact HS2.out.2.2.1.alloc _
    | exact HS2.out.2.2.1.below HM3.out.2.2
    | exact (HS2.out.2.2.1.below HM3.out.2.2).alloc _
    | exact (HS2.out.2.2.1.alloc _).below HM3.out.2.2
   case refine_3 =>
    first
    | exact HM3.out.2.1
    | exact HM3.out.2.1.alloc _
    | exact HM3.out.2.1.below HS2.out.2.2.2 HM3.out.2.1.lt
    | exact (HM3.out.2.1.below HS2.out.2.2.2 HM3.out.2.1.lt).alloc _
    | exact (HM3.out.2.1.alloc _).below HS2.out.2.2.2 (HM3.out.2.1.alloc _).lt
   case refine_4 =>
    first
    | exact Blk.new _ _ _
    | exact (Blk.new _ _ _).below HM3.out.2.2 (Blk.new _ _ _).lt
    | exact (Blk.new _ _ _).below HS2.out.2.2.2 (Blk.new _ _ _).lt
    | exact ((Blk.new w _ _).drew.below HS2.out.2.2.2 (Blk.new w _ _).drew.lt).below HM3.out.2.2 ((Blk.new w _ _).drew.below HS2.out.2.2.2 (Blk.new w _ _).drew.lt).lt
    | exact ((Blk.new w _ _).drew.below HM3.out.2.2 (Blk.new w _ _).drew.lt).below HS2.out.2.2.2 ((Blk.new w _ _).drew.below HM3.out.2.2 (Blk.new w _ _).drew.lt).lt
   all_goals
    have h1 := HS2.out.1
    have h2 := HS2.out.2.2.2.size
    have h3 := HM3.out.1
    have h4 := HM3.out.2.2.size
    have h5 := HS2.out.2.1
    have h6 : w.drew.heap.size = w.heap.size := rfl
    first
    | omega
    | rfl
    | (simp only [World.size_alloc] at h1 h2 h3 h4 h5 ⊢; omega)
    | (simp only [World.size_alloc] at h1 h2 h3 h4 h5; omega)
    | (simp at h1 h2 h3 h4 h5 ⊢; omega)
    | (simp at h1 h2 h3 h4 h5; omega)
    | simp
 case rest =>
  obtain ⟨Q, rfl, HQ⟩ := hcut
  go_wp2_with (fail)
  go_loopw [12] (fun i wr => i = .int .i64 0 ∧ wr = wc) (fun _ _ => 0)
  case atStart => exact ⟨rfl, rfl⟩
  case round =>
   obtain ⟨rfl, rfl⟩ := hrel
   go_wp2_with (fail)
   go_loopw [13] (fun i wr2 => i = .int .i64 0 ∧ wr2 = wr) (fun _ _ => 0)
   case atStart => exact ⟨rfl, rfl⟩
   case round =>
    obtain ⟨rfl, rfl⟩ := hrel
    go_wp2
    go_ret
    exact ⟨Q, rfl, HQ.out⟩
def QNewS (z zb bl rs : Int) (w : World) (e : Ending) (w' : World) : Prop :=
 (rightB z zb bl rs = true -> ∃ (Q : QF) (sh : Sh), z = sh.z ∧ zb = sh.zb ∧ bl = sh.bl ∧ rs = sh.rs ∧ e = .returned (.pointer (some ⟨Q.r, 0, none⟩)) ∧ (∀ i, Q.T i -> w.heap.size <= i) ∧ QSto (fun b => w.heap.size <= b) w' Q sh 0 (newM sh (P0 sh))) ∧ (rightB z zb bl rs = false -> e = .returned (.pointer none)) ∧ Below w.heap.size w w'
theorem saveL_P0 (sh : Sh) : saveL (List.replicate sh.z pt0) 0 (encC sh.bl 0 []) = P0 sh := by
 have e : encC sh.bl 0 [] = [doneB (headC 0 1 0 0) sh.bl] := by
  have h1 : manyC 0 (roomC sh.bl) = 1 := by
   unfold manyC
   have : (0 + roomC sh.bl - 1) / roomC sh.bl = 0 := by
    rcases Nat.eq_zero_or_pos (roomC sh.bl) with h | h
    · rw [h]
    · exact Nat.div_eq_of_lt (by omega)
   omega
  unfold encC
  simp only [List.length_nil, h1]
  simp [partC, blockC_nil]
 rw [e]
 rfl
theorem many_nil (sh : Sh) (hok : sh.ok) : manyC ([] : List Pl).length (roomC sh.bl) <= sh.zb := by
 have := hok.facts
 have h1 : ([] : List Pl).length = 0 := rfl
 unfold manyC
 have : (([] : List Pl).length + roomC sh.bl - 1) / roomC sh.bl = 0 := by
  rw [h1]
  rcases Nat.eq_zero_or_pos (roomC sh.bl) with h | h
  · rw [h]
  · exact Nat.div_eq_of_lt (by omega)
 omega
theorem qsnew_any (z zb bl rs : Int) (w : World) (hz : -9223372036854775808 <= z ∧ z <= 9223372036854775807) :
    Calls Tryz.prog 13 #[.agg #[.int .i64 z, .int .i64 zb, .int .i64 bl, .int .i64 rs]] w (QNewS z zb bl rs w) := by
 have HZ := Lib.hid (fun u => qnewdev_any z zb bl rs u hz)
 clear hz
 go_enter Tryz.func13, Tryz.ntmps13
 go_wp2_with (fail)
 refine (HZ.out _).mono ?_
 rintro e w2 ⟨hy, hn, hb2⟩
 have h1s : (w.alloc (.cells #[.int .i64 z, .int .i64 zb, .int .i64 bl, .int .i64 rs] 23)).heap.size = w.heap.size + 1 := by simp
 have hB : Below w.heap.size w w2 := ((Below.refl w.heap.size w).alloc (Nat.le_refl _) _).trans (hb2.mono (by omega))
 have HB := Lib.hid hB
 cases hr : rightB z zb bl rs with
 | false =>
   obtain rfl := hn hr
   have HR := Lib.hid hr
   clear hy hn hr hb2 h1s hB
   go_wp2
   go_ret
   exact ⟨fun h => (by rw [HR.out] at h; cases h), fun _ => rfl, HB.out⟩
 | true =>
   obtain ⟨d, l, sh, e1, e2, e3, e4, rfl, hd, hl, hdev⟩ := hy hr
   have HR := Lib.hid (And.intro hr (And.intro e1 (And.intro e2 (And.intro e3 e4))))
   have HD := Lib.hid (hdev (fun b => w.heap.size <= b) (fun b hb => by
    show w.heap.size <= b
    omega))
   have HL : Hid (w.heap.size <= l) := by unfold Hid; omega
   clear hy hn hr hb2 h1s hB hdev e1 e2 e3 e4 hd hl
   have hsv := qsave_any _ w2 d l sh _ 0 (by omega) 0 (by omega) [] none 0 (fun h => absurd h (by simp)) (fun r e => by cases e) ⟨List.Pairwise.nil, fun p hp => (by cases hp), fun p hp => (by cases hp)⟩ (by simp) HD.out
   unfold QSaved at hsv
   rw [if_pos (many_nil sh HD.out.ok), if_pos (many_nil sh HD.out.ok), saveL_P0] at hsv
   have HSV := Lib.hid hsv
   clear hsv
   go_wp2_with (fail)
   refine HSV.out.mono ?_
   rintro e w3 ⟨rfl, hd3, hk3⟩
   have HD3 := Lib.hid hd3
   have HB3 : Hid (Below w.heap.size w w3) := Kp.below HB.out hk3 HB.out.size (fun b hb h => by have := HL.out; omega)
   clear hd3 hk3 HSV
   go_wp2_with (fail)
   refine (qon_any _ w3 d l sh _ HD3.out).mono ?_
   rintro e w4 ⟨Q, rfl, _, hql, hqr, hqb, hqm, hqe, hst, hb4⟩
   have hT : ∀ i, Q.T i -> w.heap.size <= i := fun i hi => by
    have h3 := HB3.out.size
    rcases hi with rfl | rfl | rfl | rfl | rfl
    · omega
    · rw [hql]; exact HL.out
    · omega
    · omega
    · omega
   have H4 : Hid (QNewS z zb bl rs w (.returned (.pointer (some ⟨Q.r, 0, none⟩))) w4) := ⟨fun _ => ⟨Q, sh, HR.out.2.1, HR.out.2.2.1, HR.out.2.2.2.1, HR.out.2.2.2.2, rfl, hT, hst⟩, fun h => (by rw [HR.out.1] at h; cases h), HB3.out.trans (hb4.mono HB3.out.size)⟩
   clear hql hqr hqb hqm hqe hst hb4 hT
   go_wp2
   go_ret
   exact H4.out
end Go.Proofs.YtfabgbmbnmbjkaaGreatDoor

