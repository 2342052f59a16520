/- Joined texts: Cb Cc. -/
import Derived.Test.YtfabgbmbnmbjkaaGreatDoorRbr
import Derived.Test.YtfabgbmbnmbjkaaGreatDoorRbm
import Derived.Test.YtfabgbmbnmbjkaaGreatDoorRbj
import Derived.Test.YtfabgbmbnmbjkaaGreatDoorRai
import Derived.Test.YtfabgbmbnmbjkaaGreatDoorRbh
import Derived.Test.YtfabgbmbnmbjkaaGreatDoorRax
/- Pruned. -/
namespace Go.Proofs.YtfabgbmbnmbjkaaGreatDoor
open Go.RowKit
set_option maxRecDepth 20000
def fls (l : List Nat) : List Value := l.map (Value.float .f64)
theorem fls_length (l : List Nat) : (fls l).length = l.length := List.length_map _
theorem fls_get (l : List Nat) (k : Nat) (h : k < l.length) : (fls l)[k]? = some (.float .f64 (l.getD k 0)) := by
 unfold fls
 rw [List.getElem?_map, List.getD_eq_getElem?_getD, List.getElem?_eq_getElem h]
 rfl
theorem fls_set (l : List Nat) (i : Nat) (x : Nat) : (fls l).toArray.setIfInBounds i (.float .f64 x) = (fls (l.set i x)).toArray := by
 simp only [List.setIfInBounds_toArray, fls, List.map_set]
theorem fl_info : (Tryz.prog.info? 137).map (fun i => (i.zero, i.size, i.bytes)) = some (some (.float .f64 0), 1, 8) := by kernel_rfl
theorem run_make_fl (n : Nat) (h : n <= 65536) (w : World) : (Instr.makeSlice 119 (.int .i64 (n : Int)) (.int .i64 (n : Int))).run Tryz.prog w = .ok (.slice (some ⟨w.heap.size, 0, none⟩) n n) (w.alloc (.cells (fls (List.replicate n 0)).toArray 137)) := by
 obtain ⟨i, hi, hz, hs, hb⟩ := info_parts fl_info
 have hr := run_make (P := Tryz.prog) w 119 137 i (.float .f64 0) Tryz.underlying119 hi hz .i64 .i64 n n (by omega) (by omega) (by rw [hb]; omega) (by omega)
 simp only [Int.toNat_natCast] at hr
 rw [hr, hs, Nat.mul_one]
 congr 3
 refine Array.ext (by simp [madeCells, fls]) (fun j h1 h2 => ?_)
 have e : (Value.float FloatKind.f64 0).cells = #[Value.float FloatKind.f64 0] := rfl
 simp [madeCells, fls, e, Nat.mod_one]
theorem Blk.flAt {w : World} {g : Nat} {l : List Nat} (h : Blk w g 137 (fls l).toArray) : Sco.FlAt w (some ⟨g, 0, none⟩) l := fun k hk => ⟨_, rfl, h.lt, by
 rw [add0, h.cell, List.getElem?_toArray]
 exact fls_get l k hk⟩
theorem run_store_fl (P : Program) (w : World) (a : Addr) (m : Mode) (r : Nat) : (store a (.float .f64 r) m).run P w = stored P w a (.float .f64 r) m := run_store P w a _ m rfl
structure CwS (w wr : World) (bx g : Nat) (sh : Sh) (l : List Nat) : Prop where
  low : Below w.heap.size w wr
  box : Blk wr bx 23 #[.int .i64 sh.z, .int .i64 sh.zb, .int .i64 sh.bl, .int .i64 sh.rs]
  row : Blk wr g 137 (fls l).toArray
  len : l.length = sh.z
  gn : w.heap.size <= g
theorem CwS.below {w wr wn : World} {bx g : Nat} {sh : Sh} {l : List Nat} (h : CwS w wr bx g sh l) (hb : Below wr.heap.size wr wn) : CwS w wn bx g sh l :=
 ⟨h.low.trans (hb.mono h.low.size), h.box.below hb h.box.lt, h.row.below hb h.row.lt, h.len, h.gn⟩
theorem CwS.set {w wr : World} {bx g : Nat} {sh : Sh} {l : List Nat} (h : CwS w wr bx g sh l) (k r : Nat) : CwS w (wr.setCell ⟨g, k, none⟩ (.float .f64 r)) bx g sh (l.set k r) := by
 have hk : Kp (fun b => b = g) wr (wr.setCell ⟨g, k, none⟩ (.float .f64 r)) := Kp.setCell (S := fun b => b = g) (Kp.refl _ wr) (p := ⟨g, k, none⟩) (.inl rfl) _
 refine ⟨Kp.below h.low hk h.low.size (fun b hb e => by have := h.gn; omega), hk.blk h.box (fun e => h.box.ne_ h.row (by decide) e), ?_, by simp [h.len], h.gn⟩
 have := h.row.set_ k (.float .f64 r)
 rw [fls_set] at this
 exact this
def FcAt (wr : World) (g : Nat) (A : Option Addr) (L : List Int) : Prop := ∀ j, j < L.length -> ∃ ad, A = some ad ∧ ad.block ≠ g ∧ wr.cell? (ad.add j) = some (.int .i64 (L.getD j 0))
theorem FcAt.kp {wr wn : World} {g : Nat} {A : Option Addr} {L : List Int} (h : FcAt wr g A L) (hk : Kp (fun b => b = g) wr wn) : FcAt wn g A L := fun j hj => by
 obtain ⟨ad, e, h1, h2⟩ := h j hj
 exact ⟨ad, e, h1, hk.cell h2 (by rw [block_of_add]; exact h1)⟩
def CwL (sh : Sh) (m : StM) (j : Nat) (l : List Nat) : Prop := (∀ x ∈ (fullM m).take j, liveM m x ≠ 0) ∧ ∀ i : Nat, i < sh.z -> if (i : Int) ∈ (fullM m).take j ∧ fewM sh m i = true then Sco.Sm (l.getD i 0) (worthM sh m i) else Sco.isNan (l.getD i 0) = true
theorem CwL.all {sh : Sh} {m : StM} {l : List Nat} (h : CwL sh m (fullM m).length l) : emptyM m = none ∧ ∀ i : Nat, i < sh.z -> Sco.Sm (l.getD i 0) (worthAt sh m i) := by
 obtain ⟨h1, h2⟩ := h
 rw [List.take_length] at h1 h2
 refine ⟨List.find?_eq_none.2 fun x hx => by simpa using h1 x hx, fun i hi => ?_⟩
 have := h2 i hi
 unfold worthAt
 by_cases hc : (i : Int) ∈ fullM m ∧ fewM sh m i = true
 · rw [if_pos hc] at this
   rw [if_pos ⟨(fullM_mem m i).1 hc.1, hc.2⟩]
   exact this
 · rw [if_neg hc] at this
   rw [if_neg (fun e => hc ⟨(fullM_mem m i).2 e.1, e.2⟩)]
   exact .inr ⟨this, nanW_nan⟩
theorem CwL.found {sh : Sh} {m : StM} {j : Nat} {l : List Nat} (h : CwL sh m j l) (hj : j < (fullM m).length) (h0 : liveM m ((fullM m).getD j 0) = 0) : emptyM m = some ((fullM m).getD j 0) := by
 have e : (fullM m).getD j 0 = (fullM m)[j] := by rw [List.getD_eq_getElem?_getD, List.getElem?_eq_getElem hj]; rfl
 rw [e] at h0 ⊢
 unfold emptyM
 rw [List.find?_eq_some_iff_getElem]
 refine ⟨by simpa using h0, j, hj, rfl, fun k hk => ?_⟩
 have := h.1 (fullM m)[k] (List.mem_take_iff_getElem.2 ⟨k, by omega, rfl⟩)
 simpa using this
theorem CwL.skip {sh : Sh} {m : StM} {j : Nat} {l : List Nat} (h : CwL sh m j l) (hj : j < (fullM m).length) (h0 : liveM m ((fullM m).getD j 0) ≠ 0) (hf : fewM sh m ((fullM m).getD j 0) = false) : CwL sh m (j + 1) l := by
 have e : (fullM m).getD j 0 = (fullM m)[j] := by rw [List.getD_eq_getElem?_getD, List.getElem?_eq_getElem hj]; rfl
 rw [e] at h0 hf
 have ht : (fullM m).take (j + 1) = (fullM m).take j ++ [(fullM m)[j]] := List.take_succ_eq_append_getElem hj
 refine ⟨fun x hx => ?_, fun i hi => ?_⟩
 · rw [ht] at hx
   rcases List.mem_append.1 hx with hx | hx
   · exact h.1 x hx
   · rw [List.mem_singleton.1 hx]; exact h0
 · have := h.2 i hi
   by_cases hc : (i : Int) ∈ (fullM m).take j ∧ fewM sh m i = true
   · rw [if_pos hc] at this
     rw [if_pos ⟨by rw [ht]; exact List.mem_append_left _ hc.1, hc.2⟩]
     exact this
   · rw [if_neg hc] at this
     rw [if_neg (fun e2 => ?_)]
     · exact this
     · rw [ht] at e2
       rcases List.mem_append.1 e2.1 with hx | hx
       · exact hc ⟨hx, e2.2⟩
       · rw [List.mem_singleton.1 hx, hf] at e2
         cases e2.2
theorem CwL.write {sh : Sh} {m : StM} {j zn r : Nat} {l : List Nat} (h : CwL sh m j l) (hj : j < (fullM m).length) (hz : (fullM m).getD j 0 = zn) (hl : zn < l.length) (h0 : liveM m zn ≠ 0) (hf : fewM sh m zn = true) (hw : Sco.Sm r (worthM sh m zn)) : CwL sh m (j + 1) (l.set zn r) := by
 have e : (fullM m).getD j 0 = (fullM m)[j] := by rw [List.getD_eq_getElem?_getD, List.getElem?_eq_getElem hj]; rfl
 have ht : (fullM m).take (j + 1) = (fullM m).take j ++ [(zn : Int)] := by rw [List.take_succ_eq_append_getElem hj, <- e, hz]
 refine ⟨fun x hx => ?_, fun i hi => ?_⟩
 · rw [ht] at hx
   rcases List.mem_append.1 hx with hx | hx
   · exact h.1 x hx
   · rw [List.mem_singleton.1 hx]; exact h0
 · by_cases hi2 : i = zn
   · subst hi2
     have hs : (l.set i r).getD i 0 = r := by rw [List.getD_eq_getElem?_getD, List.getElem?_set, if_pos rfl, if_pos hl]; rfl
     rw [hs]
     rw [if_pos ⟨by rw [ht]; simp, hf⟩]
     exact hw
   · have hs : (l.set zn r).getD i 0 = l.getD i 0 := by rw [List.getD_eq_getElem?_getD, List.getD_eq_getElem?_getD, List.getElem?_set, if_neg (fun e => hi2 e.symm)]
     rw [hs]
     have := h.2 i hi
     by_cases hc : (i : Int) ∈ (fullM m).take j ∧ fewM sh m i = true
     · rw [if_pos hc] at this
       rw [if_pos ⟨by rw [ht]; exact List.mem_append_left _ hc.1, hc.2⟩]
       exact this
     · rw [if_neg hc] at this
       rw [if_neg (fun e2 => ?_)]
       · exact this
       · rw [ht] at e2
         rcases List.mem_append.1 e2.1 with hx | hx
         · exact hc ⟨hx, e2.2⟩
         · have := List.mem_singleton.1 hx
           omega
set_option maxHeartbeats 4000000 in
theorem cworth_any (X : Nat -> Prop) (w : World) (F : StF) (sh : Sh) (n : Nat) (m : StM) (hg : Good sh m) (h : StoreIs X w F sh n m) :
    Calls Tryz.prog 59 #[.pointer (some ⟨F.s, 0, none⟩)] w (fun e w' => Below w.heap.size w w' ∧ ((∃ z, emptyM m = some z ∧ e = .returned (.tuple #[.slice none 0 0, .int .i64 z])) ∨
      (emptyM m = none ∧ ∃ g l, e = .returned (.tuple #[.slice (some ⟨g, 0, none⟩) sh.z sh.z, .int .i64 (-1)]) ∧ l.length = sh.z ∧ Sco.FlAt w' (some ⟨g, 0, none⟩) l ∧ ∀ i : Nat, i < sh.z -> Sco.Sm (l.getD i 0) (worthAt sh m i)))) := by
 have hok := h.dev.ok
 have hfc := hok.facts
 have hmk := run_make_fl sh.z (by omega)
 have H := Lib.hid h
 have HG := Lib.hid hg
 have HSH := Lib.hid (shape_any _ w F.d sh m.P h.dev)
 unfold shV at HSH
 have HDV := Lib.hid (dev_any X w F sh n m h)
 have hqq : ((sh.zb : Int)).tdiv 2 = ((sh.zb / 2 : Nat) : Int) := by rw [Int.tdiv_eq_ediv_of_nonneg (by omega)]; omega
 have hsf := fun u a m r => run_store_fl Tryz.prog u a m r
 clear h hg hok
 go_enter Tryz.func59, Tryz.ntmps59
 go_wp2_with (fail)
 refine HDV.out.mono ?_
 rintro e u ⟨rfl, rfl⟩
 go_wp2_with (fail)
 refine HSH.out.mono ?_
 rintro e w2 ⟨rfl, hb2⟩
 have HB2 := Lib.hid hb2
 clear hb2
 go_wp2_with (fail)
 have hS0 : Hid (CwS w ((w2.alloc (.cells #[.int .i64 sh.z, .int .i64 sh.zb, .int .i64 sh.bl, .int .i64 sh.rs] 23)).alloc (.cells (fls (List.replicate sh.z 0)).toArray 137)) w2.heap.size (w2.heap.size + 1) sh (List.replicate sh.z 0)) := by
  have k0 := (Blk.new w2 23 #[.int .i64 sh.z, .int .i64 sh.zb, .int .i64 sh.bl, .int .i64 sh.rs]).alloc (.cells (fls (List.replicate sh.z 0)).toArray 137)
  have k1 := Blk.new (w2.alloc (.cells #[.int .i64 sh.z, .int .i64 sh.zb, .int .i64 sh.bl, .int .i64 sh.rs] 23)) 137 (fls (List.replicate sh.z 0)).toArray
  rw [World.size_alloc] at k1
  have hsz := HB2.out.size
  exact ⟨(HB2.out.alloc hsz _).alloc (by simp; omega) _, k0, k1, by simp, by omega⟩
 generalize (w2.alloc (.cells #[.int .i64 sh.z, .int .i64 sh.zb, .int .i64 sh.bl, .int .i64 sh.rs] 23)).alloc (.cells (fls (List.replicate sh.z 0)).toArray 137) = w3 at *
 generalize w2.heap.size + 1 = g at *
 generalize w2.heap.size = bx at *
 clear hmk HB2 HDV HSH
 go_loopw [18] (fun i wr => ∃ (k : Nat) (l : List Nat), k <= sh.z ∧ i = .int .i64 k ∧ Hid (CwS w wr bx g sh l ∧ ∀ j, j < k -> Sco.isNan (l.getD j 0) = true)) (fun i _ => sh.z - (intOf i).toNat)
 case atStart => exact ⟨0, _, Nat.zero_le _, rfl, ⟨hS0.out, fun j hj => by omega⟩⟩
 case round =>
  clear hS0
  obtain ⟨k, l, hk, rfl, hr⟩ := hrel
  by_cases hlt : k < sh.z
  · have HLT := Lib.hid hlt
    have c0 : wr.cell? ⟨g, k, none⟩ = some (.float .f64 (l.getD k 0)) := by rw [hr.out.1.row.cell, List.getElem?_toArray]; exact fls_get l k (by rw [hr.out.1.len]; exact hlt)
    have f0 := hr.out.1.row.frozen k
    go_wp2_with (fail)
    refine (Sco.ratio_any 0 0 wr).mono ?_
    rintro e w5 ⟨r, x, hn, rfl, rfl⟩
    have HN : Hid (CwS w ((wr.drewN x).setCell ⟨g, k, none⟩ (.float .f64 r)) bx g sh (l.set k r) ∧ ∀ j, j < k + 1 -> Sco.isNan ((l.set k r).getD j 0) = true) := by
     refine ⟨(hr.out.1.below (below_drewN (Below.refl _ _) x)).set k r, fun j hj => ?_⟩
     rw [List.getD_eq_getElem?_getD, List.getElem?_set]
     by_cases e : k = j
     · rw [if_pos e, if_pos (by have := hr.out.1.len; omega)]
       exact Sco.ratio_nan hn
     · rw [if_neg e, <- List.getD_eq_getElem?_getD]
       exact hr.out.2 j (by omega)
    have c5 : (wr.drewN x).cell? ⟨g, k, none⟩ = some (.float .f64 (l.getD k 0)) := c0
    have f5 : (wr.drewN x).frozen? ⟨g, k, none⟩ = false := f0
    clear hr hn c0 f0
    generalize wr.drewN x = w5 at *
    go_wp2_with (fail)
    go_roundw
    case rel => exact ⟨k + 1, _, HLT.out, by go_num, HN⟩
    case measure => have := HLT.out; simp [intOf]; omega
  · obtain rfl : k = sh.z := by omega
    have HC : Hid (CwS w wr bx g sh l ∧ CwL sh m 0 l) := ⟨hr.out.1, fun x hx => by simp at hx, fun i hi => by rw [if_neg (fun e => by simp at e)]; exact hr.out.2 i hi⟩
    have HST0 := Lib.hid (H.out.below hr.out.1.low)
    clear hr
    obtain ⟨w4, rfl⟩ : ∃ w4, w4 = wr := ⟨_, rfl⟩
    have HSG := Lib.hid (sseg_any _ w4 F sh n m HST0.out)
    have HLI := Lib.hid (list_any F.g F.gb m.G sh.rs _ 3 w4 HST0.out.seg.2 HST0.out.seg.1)
    rw [show listTo m.G 3 m.G.length = fullM m from rfl] at HLI
    go_wp2_with (fail)
    refine HSG.out.mono ?_
    rintro e u ⟨rfl, rfl⟩
    go_wp2_with (fail)
    refine HLI.out.mono ?_
    rintro e w5 ⟨A5, c5, rfl, hrd, hb5, had⟩
    have H0 : Hid (CwS w w5 bx g sh l ∧ CwL sh m 0 l ∧ FcAt w5 g A5 (fullM m)) := by
     refine ⟨HC.out.1.below hb5, HC.out.2, fun j hj => ?_⟩
     obtain ⟨ad, e, hlt5, hc⟩ := hrd.2 (by omega)
     refine ⟨ad, e, fun e2 => ?_, hc j _ ?_⟩
     · have h1 := had ad e
       have h2 := HC.out.1.row.lt
       omega
     · rw [List.getD_eq_getElem?_getD, List.getElem?_eq_getElem hj]
       unfold nums
       rw [List.getElem?_map, List.getElem?_eq_getElem hj]
       rfl
    clear hrd hb5 had HSG HLI HC HST0
    have hfl : (fullM m).length <= m.G.length := listTo_le _ _ _
    have hgl := HG.out.gl
    go_wp2_with (fail)
    go_loopw [30] (fun i wr => ∃ (j : Nat) (l : List Nat), j <= (fullM m).length ∧ i = .int .i64 j ∧ Hid (CwS w wr bx g sh l ∧ CwL sh m j l ∧ FcAt wr g A5 (fullM m))) (fun i _ => (fullM m).length - (intOf i).toNat)
    case atStart => exact ⟨0, l, Nat.zero_le _, rfl, H0⟩
    case round =>
     clear H0
     obtain ⟨j, l, hj, rfl, hr⟩ := hrel
     by_cases hlt : j < (fullM m).length
     · have HLT := Lib.hid hlt
       obtain ⟨ad, rfl, hne, hc0⟩ := hr.out.2.2 j hlt
       have hzz := (fullM_mem m _).1 (getD_mem (d := (0 : Int)) hlt)
       have hzi := stateAt_in (z := (fullM m).getD j 0) (G := m.G) (by rw [hzz]; decide)
       obtain ⟨zn, hzn⟩ := Int.eq_ofNat_of_zero_le hzi.1
       have HZN := Lib.hid hzn
       rw [hzn] at hc0 hzi
       have hz9 : zn < sh.z := by omega
       have HST := Lib.hid (H.out.below hr.out.1.low)
       have HMP := Lib.hid (map_any _ wr F sh n m HST.out)
       have HIN := Lib.hid (lin_any wr F.f n m.L (zn : Int) HST.out.nn HST.out.lm)
       have hlm : m.L.length <= 1000000 := by have h1 := HST.out.lm.len; have h2 := HST.out.nn; omega
       have hlv : liveM m (zn : Int) <= 1000000 := Nat.le_trans (List.length_filter_le _ _) hlm
       clear hzz hzi hne hzn
       go_wp2_with (fail)
       refine HMP.out.mono ?_
       rintro e u ⟨rfl, rfl⟩
       go_wp2_with (fail)
       refine HIN.out.mono ?_
       rintro e w6 ⟨A6, c6, S6, rfl, ho6, hp6, hs6, hb6⟩
       have hl6 : S6.length = liveM m (zn : Int) := hp6.length_eq
       rw [hl6]
       have H6 : Hid (CwS w w6 bx g sh l ∧ CwL sh m j l ∧ FcAt w6 g (some ad) (fullM m)) := ⟨hr.out.1.below hb6, hr.out.2.1, hr.out.2.2.kp (Kp.of_below hb6)⟩
       clear ho6 hp6 hs6 hb6 hl6 hr HMP HIN HST
       by_cases hl0 : liveM m (zn : Int) = 0
       · have HE : Hid (Below w.heap.size w w6 ∧ emptyM m = some (zn : Int)) := ⟨H6.out.1.low, by
          have := H6.out.2.1.found HLT.out (by rw [HZN.out]; exact hl0)
          rw [HZN.out] at this
          exact this⟩
         rw [hl0]
         go_wp2
         go_ret2
         exact ⟨HE.out.1, .inl ⟨_, HE.out.2, rfl⟩⟩
       · have HL0 := Lib.hid hl0
         have hl0' : ¬ ((liveM m (zn : Int) : Nat) : Int) = 0 := by omega
         have HFW : Hid (fewM sh m (zn : Int) = decide (liveM m (zn : Int) <= sh.zb / 2)) := rfl
         have hc1 : w6.cell? ⟨bx, 1, none⟩ = some (.int .i64 sh.zb) := H6.out.1.box.cell 1
         by_cases hfw : liveM m (zn : Int) <= sh.zb / 2
         · have HF1 : Hid (fewM sh m (zn : Int) = true) := HFW.out.trans (decide_eq_true hfw)
           have HST6 := Lib.hid (H.out.below H6.out.1.low)
           have hw1 : IntKind.u64.wrap ((liveM m (zn : Int) : Nat) : Int) = liveM m (zn : Int) := by rw [IntKind.wrap_u64]; omega
           have hw2 : IntKind.u64.wrap ((sh.zb : Nat) : Int) = sh.zb := by rw [IntKind.wrap_u64]; omega
           have hzz : (zn : Int) < sh.z := by omega
           go_wp2_with (fail)
           refine wp_region_relE (n := 16) (fun i v w => match i with | 0 => (v = .slice (some ⟨g, 0, none⟩) sh.z sh.z) | 1 => (v = .int .i64 (zn : Int)) | 2 => (v = .int .i64 (liveM m (zn : Int))) | 3 => (v = .int .u64 (liveM m (zn : Int))) | 4 => (v = .pointer (some ⟨bx, 1, none⟩)) | 5 => (v = .int .i64 sh.zb) | 6 => (v = .int .u64 sh.zb) | 7 => (v = .pointer (some ⟨F.s, 0, none⟩)) | 8 => (v = .int .u64 m.seq) | 9 => (v = .pointer (some ⟨F.s, 0, none⟩)) | 10 => (v = .int .i64 (zn : Int)) | 11 => (v = .int .u64 (lastM m (zn : Int))) | 12 => (v = .int .u64 (IntKind.u64.wrap (m.seq - lastM m (zn : Int)))) | 13 => (v = .int .u64 (ageM m (zn : Int))) | 14 => (∃ r, v = .float .f64 r ∧ Sco.WorthIs (liveM m (zn : Int)) sh.zb (ageM m (zn : Int)) r) | 15 => (v = .pointer (some ⟨g, zn, none⟩)) | _ => False) (by kernel_rfl) (by kernel_rfl) (by decide) (by kernel_rfl) ?st ?op ?fin
           case st =>
            intro i v w w' h hb
            match i, h with
            | 0, h => exact h
            | 1, h => exact h
            | 2, h => exact h
            | 3, h => exact h
            | 4, h => exact h
            | 5, h => exact h
            | 6, h => exact h
            | 7, h => exact h
            | 8, h => exact h
            | 9, h => exact h
            | 10, h => exact h
            | 11, h => exact h
            | 12, h => exact h
            | 13, h => exact h
            | 14, h => exact h
            | 15, h => exact h
            | _ + 16, h => exact h.elim
           case op =>
            refine ⟨?_, ?_, ?_, ?_, ?_, ?_, ?_, ?_, ?_, ?_, ?_, ?_, ?_, ?_, ?_, ?_, trivial⟩
            · intro a w hb hd hn K hK
              exact st_if (wanted_none rfl) (st_move (.inl rfl) (ev ((hn 5 (by kernel_rfl)).trans rfl)) (hK _ _ rfl (Below.refl _ _)))
            · intro a w hb hd hn K hK
              exact st_if (wanted_none rfl) (st_move (.inl rfl) (ev ((hn 8 (by kernel_rfl)).trans rfl)) (hK _ _ rfl (Below.refl _ _)))
            · intro a w hb hd hn K hK
              exact st_if (wanted_none rfl) (st_move (.inl rfl) (ev ((hn 9 (by kernel_rfl)).trans rfl)) (hK _ _ rfl (Below.refl _ _)))
            · intro a w hb hd hn K hK
              obtain ⟨_, e49, rfl⟩ := hd 2 49 (by kernel_rfl) (by kernel_rfl)
              exact st_if (wanted_none rfl) (st_conv rfl (ev e49) (by go_simp; try rfl) (hK _ _ rfl (Below.refl _ _)))
            · intro a w hb hd hn K hK
              exact st_if (wanted_none rfl) (st_field rfl (ev ((hn 4 (by kernel_rfl)).trans rfl)) (by go_simp; try rfl) (hK _ _ rfl (Below.refl _ _)))
            · intro a w hb hd hn K hK
              obtain ⟨_, e51, rfl⟩ := hd 4 51 (by kernel_rfl) (by kernel_rfl)
              have hc := below_keep hb hc1
              exact st_if (wanted_none rfl) (st_load rfl (ev e51) (by go_simp) (hK _ _ rfl (Below.refl _ _)))
            · intro a w hb hd hn K hK
              obtain ⟨_, e52, rfl⟩ := hd 5 52 (by kernel_rfl) (by kernel_rfl)
              exact st_if (wanted_none rfl) (st_conv rfl (ev e52) (by go_simp; try rfl) (hK _ _ rfl (Below.refl _ _)))
            · intro a w hb hd hn K hK
              exact st_if (wanted_none rfl) (st_move (.inl rfl) (ev ((hn 0 (by kernel_rfl)).trans rfl)) (hK _ _ rfl (Below.refl _ _)))
            · intro a w hb hd hn K hK
              obtain ⟨_, e54, rfl⟩ := hd 7 54 (by kernel_rfl) (by kernel_rfl)
              refine st_if (wanted_none rfl) (st_call (vs := #[.pointer (some ⟨F.s, 0, none⟩)]) (R := fun v w' => (v = .int .u64 m.seq) ∧ Below w.heap.size w w') Tryz.func32 (by kernel_rfl) (by kernel_rfl) rfl (by simp only [List.map_toArray, List.map_cons, List.map_nil, (ev e54)]) ?_ (fun v w' h => hK v w' h.1 h.2))
              have hh := HST6.out.below hb
              refine (seq_any _ w F sh _ m hh).mono ?_
              rintro e w' ⟨rfl, rfl⟩
              exact ⟨_, rfl, rfl, Below.refl _ _⟩
            · intro a w hb hd hn K hK
              exact st_if (wanted_none rfl) (st_move (.inl rfl) (ev ((hn 0 (by kernel_rfl)).trans rfl)) (hK _ _ rfl (Below.refl _ _)))
            · intro a w hb hd hn K hK
              exact st_if (wanted_none rfl) (st_move (.inl rfl) (ev ((hn 8 (by kernel_rfl)).trans rfl)) (hK _ _ rfl (Below.refl _ _)))
            · intro a w hb hd hn K hK
              obtain ⟨_, e56, rfl⟩ := hd 9 56 (by kernel_rfl) (by kernel_rfl)
              obtain ⟨_, e57, rfl⟩ := hd 10 57 (by kernel_rfl) (by kernel_rfl)
              refine st_if (wanted_none rfl) (st_call (vs := #[.pointer (some ⟨F.s, 0, none⟩), .int .i64 (zn : Int)]) (R := fun v w' => (v = .int .u64 (lastM m (zn : Int))) ∧ Below w.heap.size w w') Tryz.func30 (by kernel_rfl) (by kernel_rfl) rfl (by simp only [List.map_toArray, List.map_cons, List.map_nil, (ev e56), (ev e57)]) ?_ (fun v w' h => hK v w' h.1 h.2))
              have hh := HST6.out.below hb
              refine (slast_any _ w F sh _ m (zn : Int) ⟨by omega, by omega⟩ hh).mono ?_
              rintro e w' ⟨rfl, rfl⟩
              exact ⟨_, rfl, rfl, Below.refl _ _⟩
            · intro a w hb hd hn K hK
              obtain ⟨_, e55, rfl⟩ := hd 8 55 (by kernel_rfl) (by kernel_rfl)
              obtain ⟨_, e58, rfl⟩ := hd 11 58 (by kernel_rfl) (by kernel_rfl)
              exact st_if (wanted_none rfl) (st_op rfl (ev e55) (ev e58) (by go_simp; try rfl) (hK _ _ rfl (Below.refl _ _)))
            · intro a w hb hd hn K hK
              obtain ⟨_, e59, rfl⟩ := hd 12 59 (by kernel_rfl) (by kernel_rfl)
              exact st_if (wanted_none rfl) (st_op rfl (ev e59) rfl (by go_simp; try rfl) (hK _ _ rfl (Below.refl _ _)))
            · intro a w hb hd hn K hK
              obtain ⟨_, e50, rfl⟩ := hd 3 50 (by kernel_rfl) (by kernel_rfl)
              obtain ⟨_, e53, rfl⟩ := hd 6 53 (by kernel_rfl) (by kernel_rfl)
              obtain ⟨_, e60, rfl⟩ := hd 13 60 (by kernel_rfl) (by kernel_rfl)
              refine st_if (wanted_none rfl) (st_call (vs := #[.int .u64 (liveM m (zn : Int)), .int .u64 sh.zb, .int .u64 (ageM m (zn : Int))]) (R := fun v w' => (∃ r, v = .float .f64 r ∧ Sco.WorthIs (liveM m (zn : Int)) sh.zb (ageM m (zn : Int)) r) ∧ Below w.heap.size w w') Tryz.func118 (by kernel_rfl) (by kernel_rfl) rfl (by simp only [List.map_toArray, List.map_cons, List.map_nil, (ev e50), (ev e53), (ev e60)]) ?_ (fun v w' h => hK v w' h.1 h.2))
              refine (Sco.worth_any (liveM m (zn : Int)) sh.zb (ageM m (zn : Int)) w).mono ?_
              rintro e w' ⟨r, x, hr, rfl, rfl⟩
              exact ⟨_, rfl, ⟨r, rfl, hr⟩, below_drewN (Below.refl _ _) x⟩
            · intro a w hb hd hn K hK
              obtain ⟨_, e47, rfl⟩ := hd 0 47 (by kernel_rfl) (by kernel_rfl)
              obtain ⟨_, e48, rfl⟩ := hd 1 48 (by kernel_rfl) (by kernel_rfl)
              exact st_if (wanted_none rfl) (st_index rfl (ev e47) (ev e48) (by go_simp; try rfl) (hK _ _ rfl (Below.refl _ _)))
           case fin =>
            intro vs a w' ha hb hR
            rw [partA_fold, show pairsOf _ _ _ = [(47, 0), (48, 1), (49, 2), (50, 3), (51, 4), (52, 5), (53, 6), (54, 7), (55, 8), (56, 9), (57, 10), (58, 11), (59, 12), (60, 13), (61, 14), (62, 15)] from by kernel_rfl] at ha
            have q0 : vs 0 = .slice (some ⟨g, 0, none⟩) sh.z sh.z := hR 0 (by decide)
            have q1 : vs 1 = .int .i64 (zn : Int) := hR 1 (by decide)
            have q2 : vs 2 = .int .i64 (liveM m (zn : Int)) := hR 2 (by decide)
            have q3 : vs 3 = .int .u64 (liveM m (zn : Int)) := hR 3 (by decide)
            have q4 : vs 4 = .pointer (some ⟨bx, 1, none⟩) := hR 4 (by decide)
            have q5 : vs 5 = .int .i64 sh.zb := hR 5 (by decide)
            have q6 : vs 6 = .int .u64 sh.zb := hR 6 (by decide)
            have q7 : vs 7 = .pointer (some ⟨F.s, 0, none⟩) := hR 7 (by decide)
            have q8 : vs 8 = .int .u64 m.seq := hR 8 (by decide)
            have q9 : vs 9 = .pointer (some ⟨F.s, 0, none⟩) := hR 9 (by decide)
            have q10 : vs 10 = .int .i64 (zn : Int) := hR 10 (by decide)
            have q11 : vs 11 = .int .u64 (lastM m (zn : Int)) := hR 11 (by decide)
            have q12 : vs 12 = .int .u64 (IntKind.u64.wrap (m.seq - lastM m (zn : Int))) := hR 12 (by decide)
            have q13 : vs 13 = .int .u64 (ageM m (zn : Int)) := hR 13 (by decide)
            obtain ⟨r14, q14, h14⟩ := hR 14 (by decide)
            have q15 : vs 15 = .pointer (some ⟨g, zn, none⟩) := hR 15 (by decide)
            simp only [List.foldl_cons, List.foldl_nil, q0, q1, q2, q3, q4, q5, q6, q7, q8, q9, q10, q11, q12, q13, q14, q15] at ha
            subst ha
            clear hR q0 q1 q2 q3 q4 q5 q6 q7 q8 q9 q10 q11 q12 q13 q14 q15
            have c0 : w'.cell? ⟨g, zn, none⟩ = some (.float .f64 (l.getD zn 0)) := by rw [(H6.out.1.below hb).row.cell, List.getElem?_toArray]; exact fls_get l zn (by rw [H6.out.1.len]; exact hz9)
            have f0 := (H6.out.1.below hb).row.frozen zn
            have HN : Hid (CwS w (w'.setCell ⟨g, zn, none⟩ (.float .f64 r14)) bx g sh (l.set zn r14) ∧ CwL sh m (j + 1) (l.set zn r14) ∧ FcAt (w'.setCell ⟨g, zn, none⟩ (.float .f64 r14)) g (some ad) (fullM m)) :=
             ⟨(H6.out.1.below hb).set zn r14, H6.out.2.1.write HLT.out HZN.out (by rw [H6.out.1.len]; exact hz9) HL0.out HF1.out (h14.same (wv_is _ _ _)), (H6.out.2.2.kp (Kp.of_below hb)).kp (Kp.setCell (S := fun b => b = g) (Kp.refl _ w') (p := ⟨g, zn, none⟩) (.inl rfl) _)⟩
            clear hb h14 H6 HST6 hc1
            go_wp2_with (fail)
            go_roundw
            case rel => exact ⟨j + 1, _, HLT.out, by go_num, HN⟩
            case measure => have := HLT.out; simp [intOf]; omega
         · have HF1 : Hid (fewM sh m (zn : Int) = false) := HFW.out.trans (decide_eq_false hfw)
           have hfw' : ¬ ((liveM m (zn : Int) : Nat) : Int) <= ((sh.zb / 2 : Nat) : Int) := by omega
           go_wp2_with (fail)
           go_roundw
           case rel => exact ⟨j + 1, l, HLT.out, by go_num, H6.out.1, H6.out.2.1.skip HLT.out (by rw [HZN.out]; exact HL0.out) (by rw [HZN.out]; exact HF1.out), H6.out.2.2⟩
           case measure => have := HLT.out; simp [intOf]; omega
     · obtain rfl : j = (fullM m).length := by omega
       have HE := Lib.hid (hr.out.2.1.all)
       have HE2 := Lib.hid (And.intro hr.out.1.low (And.intro hr.out.1.len hr.out.1.row.flAt))
       clear hr
       go_wp2
       go_ret2
       exact ⟨HE2.out.1, .inr ⟨HE.out.1, g, l, rfl, HE2.out.2.1, HE2.out.2.2, HE.out.2⟩⟩
end Go.Proofs.YtfabgbmbnmbjkaaGreatDoor

/- Pruned. -/
namespace Go.Proofs.YtfabgbmbnmbjkaaGreatDoor
open Go.RowKit
set_option maxRecDepth 20000
theorem best_pick {sh : Sh} {m : StM} (he : emptyM m = none) {n : Int} (h : Sco.IsBest (worthsM sh m) sh.z n) : pickM sh m = n := by
 unfold pickM
 rw [he]
 exact (Sco.rbest_is _ _).unique h
set_option maxHeartbeats 1000000 in
theorem cpick_any (X : Nat -> Prop) (w : World) (F : StF) (sh : Sh) (n : Nat) (m : StM) (hg : Good sh m) (h : StoreIs X w F sh n m) :
    Calls Tryz.prog 24 #[.pointer (some ⟨F.s, 0, none⟩)] w (Makes (.int .i64 (pickM sh m)) w) := by
 have HW := Lib.hid (cworth_any X w F sh n m hg h)
 have hok := h.dev.ok
 have hfc := hok.facts
 clear h hg hok
 go_enter Tryz.func24, Tryz.ntmps24
 go_wp2_with (fail)
 refine HW.out.mono ?_
 rintro e w2 ⟨hb, ⟨z, hz, rfl⟩ | ⟨hz, g, l, rfl, hl, hf, hs⟩⟩
 · have hz0 : 0 <= z := by
    have hm := List.mem_of_find?_eq_some hz
    have h3 := (fullM_mem m z).1 hm
    exact (stateAt_in (z := z) (G := m.G) (by rw [h3]; decide)).1
   have HE : Hid (Below w.heap.size w w2 ∧ pickM sh m = z) := ⟨hb, by unfold pickM; rw [hz]⟩
   clear hb hz HW
   go_wp2
   go_ret
   exact ⟨ret_int HE.out.2.symm, HE.out.1⟩
 · have HB := Lib.hid (Sco.best_any (some ⟨g, 0, none⟩) sh.z l w2 (by omega) hf)
   rw [hl] at HB
   have HE : Hid (Below w.heap.size w w2 ∧ pickM sh m = Sco.bestV l) := ⟨hb, best_pick hz (by
    have h1 := Sco.best_is l
    rw [hl] at h1
    exact h1.sm (fun i hi => by rw [worthsM_get _ _ _ hi]; exact hs i hi))⟩
   clear hb hz hf hs HW
   go_wp2_with (fail)
   refine HB.out.mono ?_
   rintro e w3 ⟨rfl, rfl⟩
   go_wp2
   go_ret
   exact ⟨ret_int HE.out.2.symm, HE.out.1⟩
theorem run_append_row (w : World) (ty t e : TypeId) (i : TypeInfo) (z : Value) (bytes : Nat) (ht : Tryz.prog.underlying t = some (.slice e)) (hi : Tryz.prog.info? e = some i) (hz : i.zero = some z) (hsize : i.size = 1) (hby : i.bytes = bytes) (hb16 : bytes <= 16) (hzs : z.cells.size = 1)
    {base c g : Nat} {A : Option Addr} (xs : List Value) (x : Value) (hx1 : x.oneCell' = true) (hown : w.ownsRow base e 1 (.slice A xs.length c) xs.length xs) (hsrc : Blk w g e #[x]) (hlen : xs.length <= 1000000) (hbase : base <= w.heap.size) :
    ∃ A' c' w', (Builtin.append_ #[t, t] ty #[.slice A xs.length c, .slice (some ⟨g, 0, none⟩) 1 1]).run Tryz.prog w = .ok (.slice A' (xs.length + 1) c') w' ∧ w'.ownsRow base e 1 (.slice A' (xs.length + 1) c') (xs.length + 1) (xs ++ [x]) ∧ Kp (fun b => (Value.slice A xs.length c).ownBlock = some b) w w' := by
 have hr : Reads w w.heap.size 1 (some ⟨g, 0, none⟩) 1 [x] := ⟨rfl, fun _ => ⟨_, rfl, hsrc.lt, fun j v hv => by
  rw [add0, hsrc.cell, List.getElem?_toArray]
  exact hv⟩⟩
 obtain ⟨v', w', hrun, hown', hg, _⟩ := run_append_any (P := Tryz.prog) (w := w) base t ty e i z 1 bytes ht hi hz hsize hby hzs (by omega) (.slice A xs.length c) xs.length xs hown _ _ 1 1 [x] hr (fun v hv => by rw [List.mem_singleton.1 hv]; exact hx1) (by simp only [maxLen]; omega) (by
  have : (xs.length + 1) * bytes <= 1000001 * 16 := Nat.mul_le_mul (by omega) hb16
  omega) hbase
 obtain ⟨A', c', rfl⟩ := own_form hown'
 exact ⟨A', c', w', hrun, hown', ⟨hg.os, hg.tape, hg.output, hg.size, fun b hb hn => hg.block b hb (fun e => hn e.symm)⟩⟩
theorem rows_apart {w : World} {b1 b2 e1 e2 s1 s2 n1 n2 : Nat} {v1 v2 : Value} {x1 x2 : List Value} (h : w.ownsRow b1 e1 s1 v1 n1 x1) (h' : w.ownsRow b2 e2 s2 v2 n2 x2) (hne : e1 ≠ e2) {b : Nat} (hb : v1.ownBlock = some b) : v2.ownBlock ≠ some b := fun hb' => by
 rcases h.2 with ⟨hn, _⟩ | ⟨g, cap, cur, hv, _, hh, _⟩
 · rw [hn] at hb; cases hb
 · rcases h'.2 with ⟨hn, _⟩ | ⟨g', cap', cur', hv', _, hh', _⟩
   · rw [hn] at hb'; cases hb'
   · rw [hv] at hb
     rw [hv'] at hb'
     obtain rfl := Option.some.inj hb
     obtain rfl := Option.some.inj hb'
     rw [hh] at hh'
     injection Option.some.inj hh' with _ e
     exact hne e
theorem row_cell {w : World} {base e n c : Nat} {A : Option Addr} {xs : List Value} (h : w.ownsRow base e 1 (.slice A n c) n xs) {k : Nat} (hk : k < n) : ∃ g, A = some ⟨g, 0, none⟩ ∧ g < w.heap.size ∧ w.cell? ⟨g, k, none⟩ = xs[k]? := by
 rcases h.2 with ⟨_, h0⟩ | ⟨g, cap, cur, hv, hg, hh, _⟩
 · omega
 · injection hv with h1 h2 h3
   subst h1
   exact ⟨g, rfl, (World.ownsRow.lt h g rfl).2, World.ownsRow.cellAt h k (by omega)⟩
structure RpS (w5 wr : World) (Z : List Int) (zA : Option Addr) (zc : Nat) (V : List Nat) (vA : Option Addr) (vc : Nat) : Prop where
  low : Below w5.heap.size w5 wr
  z : wr.ownsRow w5.heap.size 3 1 (.slice zA Z.length zc) Z.length (nums .i64 Z)
  v : wr.ownsRow w5.heap.size 137 1 (.slice vA V.length vc) V.length (fls V)
section
variable {w5 wr wn : World} {Z : List Int} {zA vA zA' vA' : Option Addr} {zc vc zc' vc' : Nat} {V : List Nat}
theorem RpS.below (h : RpS w5 wr Z zA zc V vA vc) (hb : Below wr.heap.size wr wn) : RpS w5 wn Z zA zc V vA vc :=
 ⟨h.low.trans (hb.mono h.low.size), ownsRow_of_block h.z (fun b e => hb.block b (World.ownsRow.lt h.z b e).2), ownsRow_of_block h.v (fun b e => hb.block b (World.ownsRow.lt h.v b e).2)⟩
theorem RpS.addZ (h : RpS w5 wr Z zA zc V vA vc) {x : Int} (ho : wn.ownsRow w5.heap.size 3 1 (.slice zA' (Z.length + 1) zc') (Z.length + 1) (nums .i64 Z ++ [.int .i64 x])) (hk : Kp (fun b => (Value.slice zA Z.length zc).ownBlock = some b) wr wn) : RpS w5 wn (Z ++ [x]) zA' zc' V vA vc := by
 refine ⟨Kp.below h.low hk h.low.size (fun b hb e => by have := (World.ownsRow.lt h.z b e).1; omega), ?_, ownsRow_of_block h.v (fun b e => hk.block b (World.ownsRow.lt h.v b e).2 (fun e2 => rows_apart h.z h.v (by decide) e2 e))⟩
 rw [List.length_append, show nums .i64 (Z ++ [x]) = nums .i64 Z ++ [.int .i64 x] by simp [nums]]
 exact ho
theorem RpS.addV (h : RpS w5 wr Z zA zc V vA vc) {x : Nat} (ho : wn.ownsRow w5.heap.size 137 1 (.slice vA' (V.length + 1) vc') (V.length + 1) (fls V ++ [.float .f64 x])) (hk : Kp (fun b => (Value.slice vA V.length vc).ownBlock = some b) wr wn) : RpS w5 wn Z zA zc (V ++ [x]) vA' vc' := by
 refine ⟨Kp.below h.low hk h.low.size (fun b hb e => by have := (World.ownsRow.lt h.v b e).1; omega), ownsRow_of_block h.z (fun b e => hk.block b (World.ownsRow.lt h.z b e).2 (fun e2 => rows_apart h.v h.z (by decide) e2 e)), ?_⟩
 rw [List.length_append, show fls (V ++ [x]) = fls V ++ [.float .f64 x] by simp [fls]]
 exact ho
theorem RpS.flAt (h : RpS w5 wr Z zA zc V vA vc) : Sco.FlAt wr vA V := fun k hk => by
 obtain ⟨g, rfl, hg, hc⟩ := row_cell h.v hk
 exact ⟨_, rfl, hg, by rw [add0, hc]; exact fls_get V k hk⟩
end
def RpL (sh : Sh) (m : StM) (j : Nat) (Z : List Int) (V : List Nat) : Prop := Z = ((fullM m).take j).filter (fun z => fewM sh m z) ∧ V.length = Z.length ∧ (∀ i, i < V.length -> Sco.Sm (V.getD i 0) (worthM sh m (Z.getD i 0))) ∧ ∀ x ∈ (fullM m).take j, liveM m x ≠ 0
theorem empty_found {m : StM} {j : Nat} (h : ∀ x ∈ (fullM m).take j, liveM m x ≠ 0) (hj : j < (fullM m).length) (h0 : liveM m ((fullM m).getD j 0) = 0) : emptyM m = some ((fullM m).getD j 0) := by
 have e : (fullM m).getD j 0 = (fullM m)[j] := by rw [List.getD_eq_getElem?_getD, List.getElem?_eq_getElem hj]; rfl
 rw [e] at h0 ⊢
 unfold emptyM
 rw [List.find?_eq_some_iff_getElem]
 refine ⟨by simpa using h0, j, hj, rfl, fun k hk => ?_⟩
 have := h (fullM m)[k] (List.mem_take_iff_getElem.2 ⟨k, by omega, rfl⟩)
 simpa using this
theorem take_next {m : StM} {j : Nat} (hj : j < (fullM m).length) : (fullM m).take (j + 1) = (fullM m).take j ++ [(fullM m).getD j 0] := by
 rw [List.take_succ_eq_append_getElem hj, List.getD_eq_getElem?_getD, List.getElem?_eq_getElem hj]
 rfl
theorem RpL.skip {sh : Sh} {m : StM} {j : Nat} {Z : List Int} {V : List Nat} (h : RpL sh m j Z V) (hj : j < (fullM m).length) (h0 : liveM m ((fullM m).getD j 0) ≠ 0) (hf : fewM sh m ((fullM m).getD j 0) = false) : RpL sh m (j + 1) Z V := by
 obtain ⟨h1, h2, h3, h4⟩ := h
 refine ⟨?_, h2, h3, fun x hx => ?_⟩
 · rw [take_next hj, List.filter_append, <- h1, List.filter_cons_of_neg (by rw [hf]; decide), List.filter_nil, List.append_nil]
 · rw [take_next hj] at hx
   rcases List.mem_append.1 hx with hx | hx
   · exact h4 x hx
   · rw [List.mem_singleton.1 hx]; exact h0
theorem RpL.add {sh : Sh} {m : StM} {j r : Nat} {Z : List Int} {V : List Nat} {zn : Int} (h : RpL sh m j Z V) (hj : j < (fullM m).length) (hz : (fullM m).getD j 0 = zn) (h0 : liveM m zn ≠ 0) (hf : fewM sh m zn = true) (hw : Sco.Sm r (worthM sh m zn)) : RpL sh m (j + 1) (Z ++ [zn]) (V ++ [r]) := by
 obtain ⟨h1, h2, h3, h4⟩ := h
 refine ⟨?_, by simp [h2], fun i hi => ?_, fun x hx => ?_⟩
 · rw [take_next hj, List.filter_append, <- h1, hz]
   simp [hf]
 · rw [List.length_append, List.length_singleton] at hi
   rw [List.getD_eq_getElem?_getD, List.getD_eq_getElem?_getD]
   by_cases e : i < V.length
   · rw [List.getElem?_append_left e, List.getElem?_append_left (by omega), <- List.getD_eq_getElem?_getD, <- List.getD_eq_getElem?_getD]
     exact h3 i e
   · obtain rfl : i = V.length := by omega
     rw [List.getElem?_append_right (Nat.le_refl _), List.getElem?_append_right (by omega), h2]
     simpa using hw
 · rw [take_next hj, hz] at hx
   rcases List.mem_append.1 hx with hx | hx
   · exact h4 x hx
   · rw [List.mem_singleton.1 hx]; exact h0
theorem RpL.all {sh : Sh} {m : StM} {Z : List Int} {V : List Nat} (hg : m.G.length = sh.z) (h : RpL sh m (fullM m).length Z V) : pickM sh m = if Sco.rbest V V.length < 0 then -1 else Z.getD (Sco.rbest V V.length).toNat 0 := by
 obtain ⟨h1, h2, h3, h4⟩ := h
 rw [List.take_length] at h1 h4
 have he : emptyM m = none := List.find?_eq_none.2 fun x hx => by simpa using h4 x hx
 have hZ : Z = fewsM sh m := h1
 subst hZ
 exact best_pick he (pick_few hg h2 h3 (Sco.rbest_is V V.length))
theorem live_perm {m : StM} {M : List Pl} (h : Twin m.L M) (z : Int) : (ofZ z M).length = liveM m z := (h.perm.filter _).length_eq
theorem flt_info : (Tryz.prog.info? 137).map (fun i => (i.zero, i.size, i.bytes)) = some (some (.float .f64 0), 1, 8) := by kernel_rfl
set_option maxHeartbeats 8000000 in
theorem refpick_any (Y : Nat -> Prop) (w : World) (Q : QF) (sh : Sh) (n : Nat) (m : StM) (hg : Good sh m) (h : QSto Y w Q sh n m) :
    Calls Tryz.prog 33 #[.pointer (some ⟨Q.r, 0, none⟩)] w (Makes (.int .i64 (pickM sh m)) w) := by
 have hok := h.dev.ok
 have hfc := hok.facts
 have H := Lib.hid h
 have HG := Lib.hid hg
 have q1 := h.top.cell 1
 have HLI := Lib.hid (reflist_any Q.g Q.b Q.cap Q.ex m.G sh.z sh.zb sh.bl sh.rs 3 w (by have := hg.gl; omega) h.seg)
 rw [show listTo m.G 3 m.G.length = fullM m from rfl] at HLI
 have hqq : ((sh.zb : Int)).tdiv 2 = ((sh.zb / 2 : Nat) : Int) := by rw [Int.tdiv_eq_ediv_of_nonneg (by omega)]; omega
 have hfl : (fullM m).length <= m.G.length := listTo_le _ _ _
 have hgl := hg.gl
 clear h hg hok
 go_enter Tryz.func33, Tryz.ntmps33
 go_wp2_with (fail)
 refine HLI.out.mono ?_
 rintro e w5 ⟨A5, c5, rfl, hrd, hb5, _⟩
 have HB5 := Lib.hid hb5
 have HF : Hid (∀ j, j < (fullM m).length -> ∃ ad, A5 = some ad ∧ ad.block < w5.heap.size ∧ w5.cell? (ad.add j) = some (.int .i64 ((fullM m).getD j 0))) := fun j hj => by
  obtain ⟨ad, e, hlt5, hc⟩ := hrd.2 (by omega)
  refine ⟨ad, e, hlt5, hc j _ ?_⟩
  rw [List.getD_eq_getElem?_getD, List.getElem?_eq_getElem hj]
  unfold nums
  rw [List.getElem?_map, List.getElem?_eq_getElem hj]
  rfl
 have H0 : Hid (RpS w5 w5 [] none 0 [] none 0 ∧ RpL sh m 0 [] []) := ⟨⟨Below.refl _ _, World.ownsRow_nil _ _ _ _, World.ownsRow_nil _ _ _ _⟩, rfl, rfl, fun i hi => by simp at hi, fun x hx => by simp at hx⟩
 clear hrd hb5 HLI q1
 go_wp2_with (fail)
 go_loopw [4, 5, 6] (fun za va i wr => ∃ (j : Nat) (Z : List Int) (zA : Option Addr) (zc : Nat) (V : List Nat) (vA : Option Addr) (vc : Nat), j <= (fullM m).length ∧ za = .slice zA Z.length zc ∧ va = .slice vA V.length vc ∧ i = .int .i64 j ∧ Hid (RpS w5 wr Z zA zc V vA vc ∧ RpL sh m j Z V)) (fun _ _ i _ => (fullM m).length - (intOf i).toNat)
 case atStart => exact ⟨0, [], none, 0, [], none, 0, Nat.zero_le _, rfl, rfl, rfl, H0⟩
 case round =>
  clear H0
  obtain ⟨j, Z, zA, zc, V, vA, vc, hj, rfl, rfl, rfl, hr⟩ := hrel
  have HLW : Hid (Below w.heap.size w wr) := HB5.out.trans (hr.out.1.low.mono HB5.out.size)
  have HST := Lib.hid (H.out.below HLW.out)
  by_cases hlt : j < (fullM m).length
  · have HLT := Lib.hid hlt
    obtain ⟨ad, rfl, had, hc5⟩ := HF.out j hlt
    have hc0 : wr.cell? (ad.add j) = some (.int .i64 ((fullM m).getD j 0)) := by rw [hr.out.1.low.cell (by rw [block_of_add]; exact had)]; exact hc5
    have hzz := (fullM_mem m _).1 (getD_mem (d := (0 : Int)) hlt)
    have hzi := stateAt_in (z := (fullM m).getD j 0) (G := m.G) (by rw [hzz]; decide)
    obtain ⟨zn, hzn⟩ := Int.eq_ofNat_of_zero_le hzi.1
    have HZN := Lib.hid hzn
    rw [hzn] at hc0 hzi
    have hz9 : zn < sh.z := by omega
    have hlm : m.L.length <= 1000000 := by have h2 := HST.out.len; omega
    have hlv : liveM m (zn : Int) <= 1000000 := Nat.le_trans (List.length_filter_le _ _) hlm
    have q2 := HST.out.top.cell 2
    have HIN : Hid (Calls Tryz.prog 67 #[.pointer (some ⟨Q.mm, 0, none⟩), .int .i64 (zn : Int)] wr (fun e w' => ∃ A c, e = .returned (.slice A (liveM m (zn : Int)) c) ∧ Below wr.heap.size wr w')) := by
     obtain ⟨M, hM, hmp⟩ := HST.out.mp
     refine (rin_any wr Q.mm M (zn : Int) (HG.out.uq.perm hM.perm.symm) (by have := hM.perm.length_eq; omega) hmp.rm).mono ?_
     rintro e w' ⟨A, c, S, rfl, _, hp, _, hb⟩
     exact ⟨A, c, by rw [hp.length_eq, live_perm hM], hb⟩
    clear hzz hzi had hc5 hzn
    go_wp2_with (fail)
    refine HIN.out.mono ?_
    rintro e w6 ⟨A6, c6, rfl, hb6⟩
    have H6 : Hid (RpS w5 w6 Z zA zc V vA vc ∧ RpL sh m j Z V ∧ Below w.heap.size w w6) := ⟨hr.out.1.below hb6, hr.out.2, HLW.out.trans (hb6.mono HLW.out.size)⟩
    have HST6 := Lib.hid (H.out.below H6.out.2.2)
    clear hb6 hr HIN HST HLW q2
    have hq0 := HST6.out.top.cell 0
    have hq3 := HST6.out.top.cell 3
    have hd1 := HST6.out.dev.top.cell 1
    by_cases hl0 : liveM m (zn : Int) = 0
    · have HE : Hid (Below w.heap.size w w6 ∧ pickM sh m = (zn : Int)) := ⟨H6.out.2.2, by
       have := empty_found H6.out.2.1.2.2.2 HLT.out (by rw [HZN.out]; exact hl0)
       rw [HZN.out] at this
       unfold pickM
       rw [this]⟩
      rw [hl0]
      go_wp2
      go_ret
      exact ⟨ret_int HE.out.2.symm, HE.out.1⟩
    · have HL0 := Lib.hid hl0
      have hl0' : ¬ ((liveM m (zn : Int) : Nat) : Int) = 0 := by omega
      have HFW : Hid (fewM sh m (zn : Int) = decide (liveM m (zn : Int) <= sh.zb / 2)) := rfl
      by_cases hfw : liveM m (zn : Int) <= sh.zb / 2
      · have HF1 : Hid (fewM sh m (zn : Int) = true) := HFW.out.trans (decide_eq_true hfw)
        have hw1 : IntKind.u64.wrap ((liveM m (zn : Int) : Nat) : Int) = liveM m (zn : Int) := by rw [IntKind.wrap_u64]; omega
        have hw2 : IntKind.u64.wrap ((sh.zb : Nat) : Int) = sh.zb := by rw [IntKind.wrap_u64]; omega
        have hb67 : Below w6.heap.size w6 (w6.alloc (.cells #[.int .i64 (zn : Int)] 3)) := (Below.refl _ _).alloc (Nat.le_refl _) _
        obtain ⟨i0, hi0, hz0, hz1, hz2⟩ := info_parts int_info
        have hzl : Z.length <= 1000000 := by
         have h1 := H6.out.2.1.1
         rw [h1]
         refine Nat.le_trans (List.length_filter_le _ _) ?_
         rw [List.length_take]
         omega
        have hown := (H6.out.1.below hb67).z
        rw [show Z.length = (nums .i64 Z).length by rw [nums_length]] at hown hzl
        obtain ⟨A8, c8, w8, hap, hrow8, hk8⟩ := run_append_row _ 68 68 3 i0 _ 8 Tryz.underlying68 hi0 hz0 hz1 hz2 (by omega) rfl (nums .i64 Z) (.int .i64 (zn : Int)) rfl hown (Blk.new w6 3 #[.int .i64 (zn : Int)]) hzl (Nat.le_trans H6.out.1.low.size hb67.size)
        rw [nums_length] at hap hrow8 hk8
        have h8 : RpS w5 w8 (Z ++ [(zn : Int)]) A8 c8 V vA vc := (H6.out.1.below hb67).addZ hrow8 hk8
        have HB8 : Hid (Below w.heap.size w w8) := HB5.out.trans (h8.low.mono HB5.out.size)
        have H8 := Lib.hid h8
        have HST6 := Lib.hid (H.out.below HB8.out)
        clear hown hrow8 hk8 hb67 h8 hzl
        go_wp2_with (at_builtin; refine wpList_append_run rfl (.tmp 46) (.tmp 48) _ rfl rfl rfl hap ?_)
        have hq0 := HST6.out.top.cell 0
        have hq3 := HST6.out.top.cell 3
        have hd1 := HST6.out.dev.top.cell 1
        clear hap
        refine wp_region_relE (n := 23) (fun i v w => match i with | 0 => (v = .slice vA V.length vc) | 1 => (v = .int .i64 (liveM m (zn : Int))) | 2 => (v = .int .u64 (liveM m (zn : Int))) | 3 => (v = .pointer (some ⟨Q.r, 0, none⟩)) | 4 => (v = .pointer (some ⟨Q.r, 0, none⟩)) | 5 => (v = .pointer (some ⟨Q.r, 0, none⟩)) | 6 => (v = .pointer (some ⟨Q.d, 0, none⟩)) | 7 => (v = .pointer (some ⟨Q.d, 0, none⟩)) | 8 => (v = .pointer (some ⟨Q.d, 0, none⟩)) | 9 => (v = .pointer (some ⟨Q.d, 1, none⟩)) | 10 => (v = .int .i64 sh.zb) | 11 => (v = .int .u64 sh.zb) | 12 => (v = .pointer (some ⟨Q.r, 0, none⟩)) | 13 => (v = .pointer (some ⟨Q.r, 0, none⟩)) | 14 => (v = .pointer (some ⟨Q.r, 3, none⟩)) | 15 => (v = .int .u64 m.seq) | 16 => (v = .pointer (some ⟨Q.r, 0, none⟩)) | 17 => (v = .int .i64 (zn : Int)) | 18 => (v = .int .u64 (lastM m (zn : Int))) | 19 => (v = .int .u64 (IntKind.u64.wrap (m.seq - lastM m (zn : Int)))) | 20 => (v = .int .u64 (ageM m (zn : Int))) | 21 => (∃ r, v = .float .f64 r ∧ Sco.WorthIs (liveM m (zn : Int)) sh.zb (ageM m (zn : Int)) r) | 22 => (∃ r g, v = .slice (some ⟨g, 0, none⟩) 1 1 ∧ Sco.WorthIs (liveM m (zn : Int)) sh.zb (ageM m (zn : Int)) r ∧ Blk w g 137 #[Value.float .f64 r]) | _ => False) (by kernel_rfl) (by kernel_rfl) (by decide) (by kernel_rfl) ?st ?op ?fin
        case st =>
         intro i v w w' h hb
         match i, h with
         | 0, h => exact h
         | 1, h => exact h
         | 2, h => exact h
         | 3, h => exact h
         | 4, h => exact h
         | 5, h => exact h
         | 6, h => exact h
         | 7, h => exact h
         | 8, h => exact h
         | 9, h => exact h
         | 10, h => exact h
         | 11, h => exact h
         | 12, h => exact h
         | 13, h => exact h
         | 14, h => exact h
         | 15, h => exact h
         | 16, h => exact h
         | 17, h => exact h
         | 18, h => exact h
         | 19, h => exact h
         | 20, h => exact h
         | 21, h => exact h
         | 22, h => obtain ⟨r, g, e, h1, h2⟩ := h; exact ⟨r, g, e, h1, h2.below hb h2.lt⟩
         | _ + 23, h => exact h.elim
        case op =>
         refine ⟨?_, ?_, ?_, ?_, ?_, ?_, ?_, ?_, ?_, ?_, ?_, ?_, ?_, ?_, ?_, ?_, ?_, ?_, ?_, ?_, ?_, ?_, ?_, trivial⟩
         · intro a w hb hd hn K hK
           exact st_if (wanted_none rfl) (st_move (.inl rfl) (ev ((hn 5 (by kernel_rfl)).trans rfl)) (hK _ _ rfl (Below.refl _ _)))
         · intro a w hb hd hn K hK
           exact st_if (wanted_none rfl) (st_move (.inl rfl) (ev ((hn 8 (by kernel_rfl)).trans rfl)) (hK _ _ rfl (Below.refl _ _)))
         · intro a w hb hd hn K hK
           obtain ⟨_, e51, rfl⟩ := hd 1 51 (by kernel_rfl) (by kernel_rfl)
           exact st_if (wanted_none rfl) (st_conv rfl (ev e51) (by go_simp; try rfl) (hK _ _ rfl (Below.refl _ _)))
         · intro a w hb hd hn K hK
           exact st_if (wanted_none rfl) (st_move (.inl rfl) (ev ((hn 0 (by kernel_rfl)).trans rfl)) (hK _ _ rfl (Below.refl _ _)))
         · intro a w hb hd hn K hK
           obtain ⟨_, e53, rfl⟩ := hd 3 53 (by kernel_rfl) (by kernel_rfl)
           exact st_if (wanted_none rfl) (st_nil rfl (ev e53) (hK _ _ rfl (Below.refl _ _)))
         · intro a w hb hd hn K hK
           obtain ⟨_, e54, rfl⟩ := hd 4 54 (by kernel_rfl) (by kernel_rfl)
           exact st_if (wanted_none rfl) (st_field rfl (ev e54) (by go_simp; try rfl) (hK _ _ rfl (Below.refl _ _)))
         · intro a w hb hd hn K hK
           obtain ⟨_, e55, rfl⟩ := hd 5 55 (by kernel_rfl) (by kernel_rfl)
           have hc := below_keep hb hq0
           exact st_if (wanted_none rfl) (st_load rfl (ev e55) (by go_simp) (hK _ _ rfl (Below.refl _ _)))
         · intro a w hb hd hn K hK
           obtain ⟨_, e56, rfl⟩ := hd 6 56 (by kernel_rfl) (by kernel_rfl)
           exact st_if (wanted_none rfl) (st_nil rfl (ev e56) (hK _ _ rfl (Below.refl _ _)))
         · intro a w hb hd hn K hK
           obtain ⟨_, e57, rfl⟩ := hd 7 57 (by kernel_rfl) (by kernel_rfl)
           exact st_if (wanted_none rfl) (st_field rfl (ev e57) (by go_simp; try rfl) (hK _ _ rfl (Below.refl _ _)))
         · intro a w hb hd hn K hK
           obtain ⟨_, e58, rfl⟩ := hd 8 58 (by kernel_rfl) (by kernel_rfl)
           exact st_if (wanted_none rfl) (st_field rfl (ev e58) (by go_simp; try rfl) (hK _ _ rfl (Below.refl _ _)))
         · intro a w hb hd hn K hK
           obtain ⟨_, e59, rfl⟩ := hd 9 59 (by kernel_rfl) (by kernel_rfl)
           have hc := below_keep hb hd1
           exact st_if (wanted_none rfl) (st_load rfl (ev e59) (by go_simp) (hK _ _ rfl (Below.refl _ _)))
         · intro a w hb hd hn K hK
           obtain ⟨_, e60, rfl⟩ := hd 10 60 (by kernel_rfl) (by kernel_rfl)
           exact st_if (wanted_none rfl) (st_conv rfl (ev e60) (by go_simp; try rfl) (hK _ _ rfl (Below.refl _ _)))
         · intro a w hb hd hn K hK
           exact st_if (wanted_none rfl) (st_move (.inl rfl) (ev ((hn 0 (by kernel_rfl)).trans rfl)) (hK _ _ rfl (Below.refl _ _)))
         · intro a w hb hd hn K hK
           obtain ⟨_, e62, rfl⟩ := hd 12 62 (by kernel_rfl) (by kernel_rfl)
           exact st_if (wanted_none rfl) (st_nil rfl (ev e62) (hK _ _ rfl (Below.refl _ _)))
         · intro a w hb hd hn K hK
           obtain ⟨_, e63, rfl⟩ := hd 13 63 (by kernel_rfl) (by kernel_rfl)
           exact st_if (wanted_none rfl) (st_field rfl (ev e63) (by go_simp; try rfl) (hK _ _ rfl (Below.refl _ _)))
         · intro a w hb hd hn K hK
           obtain ⟨_, e64, rfl⟩ := hd 14 64 (by kernel_rfl) (by kernel_rfl)
           have hc := below_keep hb hq3
           exact st_if (wanted_none rfl) (st_load rfl (ev e64) (by go_simp) (hK _ _ rfl (Below.refl _ _)))
         · intro a w hb hd hn K hK
           exact st_if (wanted_none rfl) (st_move (.inl rfl) (ev ((hn 0 (by kernel_rfl)).trans rfl)) (hK _ _ rfl (Below.refl _ _)))
         · intro a w hb hd hn K hK
           exact st_if (wanted_none rfl) (st_move (.inl rfl) (ev ((hn 7 (by kernel_rfl)).trans rfl)) (hK _ _ rfl (Below.refl _ _)))
         · intro a w hb hd hn K hK
           obtain ⟨_, e66, rfl⟩ := hd 16 66 (by kernel_rfl) (by kernel_rfl)
           obtain ⟨_, e67, rfl⟩ := hd 17 67 (by kernel_rfl) (by kernel_rfl)
           refine st_if (wanted_none rfl) (st_call (vs := #[.pointer (some ⟨Q.r, 0, none⟩), .int .i64 (zn : Int)]) (R := fun v w' => (v = .int .u64 (lastM m (zn : Int))) ∧ Below w.heap.size w w') Tryz.func69 (by kernel_rfl) (by kernel_rfl) rfl (by simp only [List.map_toArray, List.map_cons, List.map_nil, (ev e66), (ev e67)]) ?_ (fun v w' h => hK v w' h.1 h.2))
           have hh := HST6.out.below hb
           refine (qslast_any _ w Q sh _ m (zn : Int) (fun h => by omega) hh).mono ?_
           rintro e w' ⟨rfl, rfl⟩
           exact ⟨_, rfl, rfl, Below.refl _ _⟩
         · intro a w hb hd hn K hK
           obtain ⟨_, e65, rfl⟩ := hd 15 65 (by kernel_rfl) (by kernel_rfl)
           obtain ⟨_, e68, rfl⟩ := hd 18 68 (by kernel_rfl) (by kernel_rfl)
           exact st_if (wanted_none rfl) (st_op rfl (ev e65) (ev e68) (by go_simp; try rfl) (hK _ _ rfl (Below.refl _ _)))
         · intro a w hb hd hn K hK
           obtain ⟨_, e69, rfl⟩ := hd 19 69 (by kernel_rfl) (by kernel_rfl)
           exact st_if (wanted_none rfl) (st_op rfl (ev e69) rfl (by go_simp; try rfl) (hK _ _ rfl (Below.refl _ _)))
         · intro a w hb hd hn K hK
           obtain ⟨_, e52, rfl⟩ := hd 2 52 (by kernel_rfl) (by kernel_rfl)
           obtain ⟨_, e61, rfl⟩ := hd 11 61 (by kernel_rfl) (by kernel_rfl)
           obtain ⟨_, e70, rfl⟩ := hd 20 70 (by kernel_rfl) (by kernel_rfl)
           refine st_if (wanted_none rfl) (st_call (vs := #[.int .u64 (liveM m (zn : Int)), .int .u64 sh.zb, .int .u64 (ageM m (zn : Int))]) (R := fun v w' => (∃ r, v = .float .f64 r ∧ Sco.WorthIs (liveM m (zn : Int)) sh.zb (ageM m (zn : Int)) r) ∧ Below w.heap.size w w') Tryz.func68 (by kernel_rfl) (by kernel_rfl) rfl (by simp only [List.map_toArray, List.map_cons, List.map_nil, (ev e52), (ev e61), (ev e70)]) ?_ (fun v w' h => hK v w' h.1 h.2))
           refine (Sco.refworth_any (liveM m (zn : Int)) sh.zb (ageM m (zn : Int)) w).mono ?_
           rintro e w' ⟨r, x, hr, rfl, rfl⟩
           exact ⟨_, rfl, ⟨r, rfl, hr⟩, below_drewN (Below.refl _ _) x⟩
         · intro a w hb hd hn K hK
           obtain ⟨_, e71, ⟨r21, rfl, h21⟩⟩ := hd 21 71 (by kernel_rfl) (by kernel_rfl)
           refine st_if (wanted_none rfl) (st_build rfl (show _ = #[(0, Value.float .f64 r21)] by simp only [List.map_toArray, List.map_cons, List.map_nil, ev e71]) (w' := w.alloc (.cells #[Value.float .f64 r21] 137)) (v := .slice (some ⟨w.heap.size, 0, none⟩) 1 1) (by go_simp; try rfl) (hK _ _ ⟨r21, _, rfl, h21, Blk.new w 137 #[Value.float .f64 r21]⟩ ((Below.refl _ w).alloc (Nat.le_refl _) _)))
        case fin =>
         intro vs a w' ha hb hR
         rw [partA_fold, show pairsOf _ _ _ = [(50, 0), (51, 1), (52, 2), (53, 3), (54, 4), (55, 5), (56, 6), (57, 7), (58, 8), (59, 9), (60, 10), (61, 11), (62, 12), (63, 13), (64, 14), (65, 15), (66, 16), (67, 17), (68, 18), (69, 19), (70, 20), (71, 21), (72, 22)] from by kernel_rfl] at ha
         have q0 : vs 0 = .slice vA V.length vc := hR 0 (by decide)
         have q1 : vs 1 = .int .i64 (liveM m (zn : Int)) := hR 1 (by decide)
         have q2 : vs 2 = .int .u64 (liveM m (zn : Int)) := hR 2 (by decide)
         have q3 : vs 3 = .pointer (some ⟨Q.r, 0, none⟩) := hR 3 (by decide)
         have q4 : vs 4 = .pointer (some ⟨Q.r, 0, none⟩) := hR 4 (by decide)
         have q5 : vs 5 = .pointer (some ⟨Q.r, 0, none⟩) := hR 5 (by decide)
         have q6 : vs 6 = .pointer (some ⟨Q.d, 0, none⟩) := hR 6 (by decide)
         have q7 : vs 7 = .pointer (some ⟨Q.d, 0, none⟩) := hR 7 (by decide)
         have q8 : vs 8 = .pointer (some ⟨Q.d, 0, none⟩) := hR 8 (by decide)
         have q9 : vs 9 = .pointer (some ⟨Q.d, 1, none⟩) := hR 9 (by decide)
         have q10 : vs 10 = .int .i64 sh.zb := hR 10 (by decide)
         have q11 : vs 11 = .int .u64 sh.zb := hR 11 (by decide)
         have q12 : vs 12 = .pointer (some ⟨Q.r, 0, none⟩) := hR 12 (by decide)
         have q13 : vs 13 = .pointer (some ⟨Q.r, 0, none⟩) := hR 13 (by decide)
         have q14 : vs 14 = .pointer (some ⟨Q.r, 3, none⟩) := hR 14 (by decide)
         have q15 : vs 15 = .int .u64 m.seq := hR 15 (by decide)
         have q16 : vs 16 = .pointer (some ⟨Q.r, 0, none⟩) := hR 16 (by decide)
         have q17 : vs 17 = .int .i64 (zn : Int) := hR 17 (by decide)
         have q18 : vs 18 = .int .u64 (lastM m (zn : Int)) := hR 18 (by decide)
         have q19 : vs 19 = .int .u64 (IntKind.u64.wrap (m.seq - lastM m (zn : Int))) := hR 19 (by decide)
         have q20 : vs 20 = .int .u64 (ageM m (zn : Int)) := hR 20 (by decide)
         obtain ⟨r21, q21, h21⟩ := hR 21 (by decide)
         obtain ⟨r22, g22, q22, h22, k22⟩ := hR 22 (by decide)
         simp only [List.foldl_cons, List.foldl_nil, q0, q1, q2, q3, q4, q5, q6, q7, q8, q9, q10, q11, q12, q13, q14, q15, q16, q17, q18, q19, q20, q21, q22] at ha
         subst ha
         clear hR q0 q1 q2 q3 q4 q5 q6 q7 q8 q9 q10 q11 q12 q13 q14 q15 q16 q17 q18 q19 q20 q21 q22
         have h8 := H8.out.below hb
         obtain ⟨i0, hi0, hz0, hz1, hz2⟩ := info_parts flt_info
         have hvl : V.length <= 1000000 := by
          have h1 := H6.out.2.1
          rw [h1.2.1, h1.1]
          refine Nat.le_trans (List.length_filter_le _ _) ?_
          rw [List.length_take]
          omega
         have hown := h8.v
         rw [show V.length = (fls V).length by rw [fls_length]] at hown hvl
         obtain ⟨A9, c9, w9, hap, hrow9, hk9⟩ := run_append_row _ 119 119 137 i0 _ 8 Tryz.underlying119 hi0 hz0 hz1 hz2 (by omega) rfl (fls V) (.float .f64 r22) rfl hown k22 hvl h8.low.size
         rw [fls_length] at hap hrow9 hk9
         have HN : Hid (RpS w5 w9 (Z ++ [(zn : Int)]) A8 c8 (V ++ [r22]) A9 c9 ∧ RpL sh m (j + 1) (Z ++ [(zn : Int)]) (V ++ [r22])) := ⟨h8.addV hrow9 hk9, H6.out.2.1.add HLT.out HZN.out HL0.out HF1.out (h22.same (wv_is _ _ _))⟩
         have HL1 : Hid ((Z ++ [(zn : Int)]).length = Z.length + 1 ∧ (V ++ [r22]).length = V.length + 1) := ⟨by simp, by simp⟩
         clear h8 hown hvl hrow9 hk9 hb h22 k22 H8 H6 HST6 hq0 hq3 hd1
         simp only [Act.put, List.setIfInBounds_toArray, List.set_cons_succ, List.set_cons_zero]
         refine wpList_append_run rfl (.tmp 50) (.tmp 72) _ rfl rfl rfl hap ?_
         clear hap
         go_wp2_with (fail)
         go_roundw
         case rel => exact ⟨j + 1, _, A8, c8, _, A9, c9, HLT.out, by rw [HL1.out.1], by rw [HL1.out.2], by go_num, HN⟩
         case measure => have := HLT.out; simp [intOf]; omega
      · have HF1 : Hid (fewM sh m (zn : Int) = false) := HFW.out.trans (decide_eq_false hfw)
        have hfw' : ¬ ((liveM m (zn : Int) : Nat) : Int) <= ((sh.zb / 2 : Nat) : Int) := by omega
        go_wp2_with (fail)
        go_roundw
        case rel => exact ⟨j + 1, Z, zA, zc, V, vA, vc, HLT.out, rfl, rfl, by go_num, H6.out.1, H6.out.2.1.skip HLT.out (by rw [HZN.out]; exact HL0.out) (by rw [HZN.out]; exact HF1.out)⟩
        case measure => have := HLT.out; simp [intOf]; omega
  · obtain rfl : j = (fullM m).length := by omega
    have HP := Lib.hid (hr.out.2.all HG.out.gl)
    have hvl : V.length <= 65536 := by
     rw [hr.out.2.2.1, hr.out.2.1]
     refine Nat.le_trans (List.length_filter_le _ _) ?_
     rw [List.length_take]
     omega
    have HBV := Lib.hid (Sco.refbest_any vA vc V wr hvl hr.out.1.flAt)
    have hrb := Sco.rbest_lt V V.length
    have HVZ := Lib.hid hr.out.2.2.1
    have HZC : Hid (∀ k x, k < Z.length -> ∃ g, zA = some ⟨g, 0, none⟩ ∧ (wr.drewN x).cell? ⟨g, k, none⟩ = some (.int .i64 (Z.getD k 0))) := fun k x hk => by
     obtain ⟨g, e, _, hc⟩ := row_cell hr.out.1.z hk
     refine ⟨g, e, hc.trans ?_⟩
     unfold nums
     rw [List.getElem?_map, List.getD_eq_getElem?_getD, List.getElem?_eq_getElem hk]
     rfl
    have HNX : Hid (∀ x, Below w.heap.size w (wr.drewN x)) := fun x => below_drewN HLW.out x
    clear hr HST HLW
    generalize Sco.rbest V V.length = k at *
    go_wp2_with (fail)
    with_reducible refine HBV.out.mono ?_
    rintro e w7 ⟨rfl, x, rfl⟩
    by_cases hk0 : k < 0
    · have HE : Hid (pickM sh m = -1) := HP.out.trans (if_pos hk0)
      go_wp2
      go_ret
      exact ⟨ret_int HE.out.symm, HNX.out x⟩
    · have HE : Hid (pickM sh m = Z.getD k.toNat 0) := HP.out.trans (if_neg hk0)
      obtain ⟨kn, rfl⟩ := Int.eq_ofNat_of_zero_le (show 0 <= k by omega)
      rw [Int.toNat_natCast] at HE
      obtain ⟨g, rfl, hc⟩ := HZC.out kn x (by have := HVZ.out; omega)
      have hkz : (kn : Int) < Z.length := by have := HVZ.out; omega
      have HNX9 := Lib.hid (HNX.out x)
      clear HNX HZC
      generalize wr.drewN x = w9 at *
      go_wp2
      go_ret
      exact ⟨ret_int HE.out.symm, HNX9.out⟩
end Go.Proofs.YtfabgbmbnmbjkaaGreatDoor

